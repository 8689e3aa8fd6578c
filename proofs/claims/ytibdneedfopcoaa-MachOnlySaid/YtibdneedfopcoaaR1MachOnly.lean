/-
  The law MachOnly answers true. Conditions: none.
-/
import Derived.Test.YtibdneedfopcoaaR1Mm
import Derived.Test.YtibdneedfopcoaaR1Rd
import Derived.Test.YtibdneedfopcoaaRows
set_option linter.unusedVariables false
set_option linter.unusedSimpArgs false
namespace Go.Proofs.Ytibdneedfopcoaa
open Go Go.ChangeShapes Go.WideShapes Go.ChangeAt Go.RowKit

theorem insF_noneM {f : Ins → Int} : ∀ {l : List Ins} {k : Nat}, insF f k l = none → ∀ x ∈ l, f x = 0
  | [], _, _, x, hx => by cases hx
  | y :: l, k, h, x, hx => by
    unfold insF at h
    split at h
    · cases h
    · rename_i h0
      rcases List.mem_cons.1 hx with rfl | hx
      · exact Decidable.not_not.1 h0
      · exact insF_noneM h x hx
theorem insF_someM {f : Ins → Int} : ∀ {l : List Ins} {k : Nat} {r : Nat × Int}, insF f k l = some r → r.2 ≠ 0
  | [], _, _, h => by cases h
  | y :: l, k, r, h => by
    unfold insF at h
    split at h
    · rename_i h0; cases h; exact h0
    · exact insF_someM h
theorem blkF_zeroM {f : Ins → Int} {g : Fin4 → Int} {most : Nat} : ∀ {l : List Blk} {k : Nat}, (blkF f g most k l).1 = 0 → ∀ b ∈ l, b.ins.length ≤ most ∧ (∀ x ∈ b.ins, f x = 0) ∧ g b.en = 0
  | [], _, _, b, hb => by cases hb
  | y :: l, k, h, b, hb => by
    unfold blkF at h
    split at h
    · simp at h
    · rename_i h1
      split at h
      · rename_i k' e' he
        have := insF_someM he
        exact absurd h this
      · rename_i he
        split at h
        · rename_i h2; exact absurd h h2
        · rename_i h2
          rcases List.mem_cons.1 hb with rfl | hb
          · exact ⟨by omega, insF_noneM he, Decidable.not_not.1 h2⟩
          · exact blkF_zeroM h b hb
theorem mapE_zero {e : Int} (h : mapE e = 0) : e = 0 := by unfold mapE at h; split at h <;> simp_all
theorem mcheck_zero {p r s : Int} {bs : List Blk} (h : (mcheckM p r s bs).1 = 0) : (0 ≤ p ∧ p ≤ 4 ∧ 3 ≤ r ∧ r ≤ 8 ∧ p ≤ s ∧ s ≤ 64) ∧ 1 ≤ bs.length ∧ bs.length ≤ 16 ∧ ∀ b ∈ bs, b.ins.length ≤ 400 ∧ (∀ x ∈ b.ins, mofM x r s = 0) ∧ endM b.en r bs.length 21 = 0 := by
  unfold mcheckM at h
  split at h
  · simp at h
  · rename_i h1
    refine ⟨by omega, by omega, by omega, fun b hb => ?_⟩
    obtain ⟨k1, k2, k3⟩ := blkF_zeroM h b hb
    exact ⟨k1, k2, mapE_zero k3⟩
theorem ofM_more {x : Ins} {n m : Int} (hm : n ≤ m) (h : ofM x n = 0) : ofM x m = 0 := by
  unfold ofM at h ⊢
  split at h
  · cases h
  · rename_i h1
    split at h
    · cases h
    · rename_i h2
      split at h
      · rename_i h3
        rw [if_neg h1, if_neg h2, if_pos]
        rw [List.all_eq_true] at h3 ⊢
        intro y hy
        have := h3 y hy
        simp only [inR, decide_eq_true_eq] at this ⊢
        omega
      · cases h
theorem mofM_more {x : Ins} {r s r' s' : Int} (h3 : 3 ≤ r) (hr : r ≤ r') (h8 : r' ≤ 8) (hs : s ≤ s') (h : mofM x r s = 0) : mofM x r' s' = 0 := by
  unfold mofM at h ⊢
  split at h
  · rename_i hk
    rw [if_pos hk]
    grind
  · rename_i hk
    split at h
    · rename_i hk7
      rw [if_neg hk, if_pos hk7]
      grind
    · rename_i hk7
      rw [if_neg hk, if_neg hk7]
      rw [ofM_mapE x r h3 (by omega)] at h
      rw [ofM_mapE x r' (by omega) h8, ofM_more hr (mapE_zero h)]; rfl
theorem endM_more {e : Fin4} {r r' m : Int} (hr : r ≤ r') (h : endM e r m 21 = 0) : endM e r' m 21 = 0 := by
  unfold endM at *; grind (splits := 60)
theorem slot_ok {x : Ins} {r s : Int} (h : mofM x r s = 0) : (x.kind = 8 → 0 ≤ x.d ∧ x.d < r ∧ 0 ≤ x.a ∧ x.a < s) ∧ (x.kind = 7 → 0 ≤ x.a ∧ x.a < r ∧ 0 ≤ x.d ∧ x.d < s) := by
  unfold mofM at h
  constructor
  · intro hk; rw [if_pos hk] at h; grind
  · intro hk; rw [if_neg (by omega), if_pos hk] at h; grind
theorem mcheck_ok2 {p r s : Int} {bs : List Blk} (h0 : 0 ≤ p) (h4 : p ≤ 4) (h3 : 3 ≤ r) (h8 : r ≤ 8) (hp : p ≤ s) (hs : s ≤ 64) (h1 : 1 ≤ bs.length) (h16 : bs.length ≤ 16) (hb : ∀ b ∈ bs, b.ins.length ≤ 400 ∧ (∀ y ∈ b.ins, mofM y r s = 0) ∧ endM b.en r bs.length 21 = 0) : mcheckM p r s bs = (0, 0, 0) := by
  unfold mcheckM
  rw [if_neg (by omega)]
  refine blkF_ok fun b hm => ?_
  obtain ⟨k1, k2, k3⟩ := hb b hm
  exact ⟨k1, k2, by rw [k3]; rfl⟩
def fewI (c r : Int) : Int := if c < r then c else r
theorem few_val {G : List Value} {k : Nat} {r c d : Int} (e : gv G k = .int .i64 r) (hr : 0 ≤ r ∧ r ≤ 1000) (hd : 0 ≤ d ∧ d ≤ 10) :
    vi ((X.ite (.cmp .lss (.lit c) (.op .add .i64 (.var k) (.lit d))) (.lit c) (.op .add .i64 (.var k) (.lit d))).den G) = fewI c (r + d) := by
  have h : intOp .add .i64 r d = r + d := by simp only [intOp]; rw [wrap_i64 (by omega) (by omega)]
  simp only [X.den, e, vi_int, vb_bool, vi_ite, h, cmp_lss, decide_eq_true_eq, fewI]
theorem fill_cond {G : List Value} {x : Ins} {r s : Int} (e35 : gv G 35 = .int .i64 x.d) (e36 : gv G 36 = .int .i64 x.a) (e20 : gv G 20 = .int .i64 r) (e21 : gv G 21 = .int .i64 s) (h : 0 ≤ x.d ∧ x.d < r ∧ 0 ≤ x.a ∧ x.a < s) :
    vb ((X.ite (.ite (.ite (.cmp .lss (.var 35) (.lit 0)) (.tt true) (.cmp .geq (.var 35) (.var 20))) (.tt true) (.cmp .lss (.var 36) (.lit 0))) (.tt true) (.cmp .geq (.var 36) (.var 21))).den G) = false := by
  simp only [X.den, e35, e36, e20, e21, vi_int, vb_bool, vb_ite, cmp_lss, cmp_geq]
  grind (splits := 40)
theorem spill_cond {G : List Value} {x : Ins} {r s : Int} (e33 : gv G 33 = .int .u8 x.kind) (e35 : gv G 35 = .int .i64 x.d) (e36 : gv G 36 = .int .i64 x.a) (e20 : gv G 20 = .int .i64 r) (e21 : gv G 21 = .int .i64 s) (h : x.kind = 7 → 0 ≤ x.a ∧ x.a < r ∧ 0 ≤ x.d ∧ x.d < s) :
    vb ((X.ite (.cmp .eql (.var 33) (.lit 7)) (.ite (.ite (.ite (.cmp .lss (.var 36) (.lit 0)) (.tt true) (.cmp .geq (.var 36) (.var 20))) (.tt true) (.cmp .lss (.var 35) (.lit 0))) (.tt true) (.cmp .geq (.var 35) (.var 21))) (.tt false)).den G) = false := by
  simp only [X.den, e33, e35, e36, e20, e21, vi_int, vb_bool, vb_ite, cmp_lss, cmp_geq, cmp_eql]
  grind (splits := 40)
def Out.inner11 : Out → Out
  | .call _ _ _ _ _ _ (.ite _ _ (.call _ _ _ _ _ _ (.ite _ _ (.call _ _ _ _ _ _ (.alloc _ _ _ (.loop _ _ _ (.ite _ (.need _ _ (.load _ _ _ k)) _))))))) => k
  | _ => .fail
theorem only_roundM {R : Value → List (List Value) → H → Prop} {h : H} {J0 : List Value → H → Prop} {g0 g1 g2 g3 g4 g5 g6 g7 g8 g9 g10 g11 g12 g13 g14 g15 g16 g17 v : Value} {bs : List Blk} {p r s i0 : Int} (hv : BlksAt h v bs) (hJ0 : ∀ h', h.le h' → J0 [.int .i64 (intOp .add .i64 i0 1)] h') :
    holds Try.prog R (Out.inner11 t11) [g0, g1, g2, g3, g4, g5, g6, g7, g8, g9, g10, g11, g12, g13, g14, g15, g16, g17, Value.int .i64 i0, .int .i64 p, .int .i64 r, .int .i64 s, v] [J0] h := by
  refine h_call0 (s34 p r s v bs hv) ?_
  rintro _ h1 ⟨hl, rfl⟩
  refine ⟨faultG (mcheckM p r s bs), faultG_fit _, rfl, ?_⟩
  simp only [List.cons_append, List.nil_append, faultG]
  refine h_ite (fun _ => hJ0 _ hl) (fun hc => ?_)
  replace hc : cmpOp .neq (mcheckM p r s bs).1 0 = false := hc
  rw [cmp_neq, decide_eq_false_iff_not, Decidable.not_not] at hc
  obtain ⟨⟨q1, q2, q3, q4, q5, q6⟩, k1, k2, k3⟩ := mcheck_zero hc
  have hv1 := SlAt.le blkC_mono hl hv
  have hvl := hv1.len
  refine h_range (n := bs.length) (fun i h' => h1.le h') hvl (by omega) rfl (by omega) (H.le_refl _) ?_ ?_
  · rintro i h2 J hi hl2 hJ
    have hx : bs[i]? = some bs[i] := List.getElem?_eq_getElem hi
    have hxm : bs[i] ∈ bs := List.getElem_mem _
    generalize bs[i] = x at hx hxm
    obtain ⟨m1, m2, m3⟩ := k3 x hxm
    obtain ⟨_, ⟨w, rfl, hw⟩, hr⟩ := (SlAt.le blkC_mono hl2 hv1).get i x hx
    refine h_load (w :: endC x.en) ⟨hw.fit, endFit x.en⟩ (fun _ => hr) ?_
    simp only [List.cons_append, List.nil_append, endC]
    refine h_range (n := x.ins.length) (fun k h' => h2.le h') hw.len (by omega) rfl (by omega) (H.le_refl _) ?_ ?_
    · rintro k h3 J2 hk hl3 hJ2
      have hy : x.ins[k]? = some x.ins[k] := List.getElem?_eq_getElem hk
      have hym : x.ins[k] ∈ x.ins := List.getElem_mem _
      generalize x.ins[k] = y at hy hym
      have hs := slot_ok (m2 y hym)
      obtain ⟨_, ⟨u, rfl, hu⟩, hr2⟩ := (SlAt.le insC_mono hl3 hw).get k y hy
      refine h_load (insC y u) (insFit y u hu.fit) (fun _ => hr2) ?_
      simp only [List.cons_append, List.nil_append, insC]
      refine h_ite (fun h8 => ?_) (fun _ => ?_)
      · replace h8 : cmpOp .eql y.kind 8 = true := h8
        rw [cmp_eql, decide_eq_true_eq] at h8
        exact iteF (fill_cond (x := y) (r := r) (s := s) rfl rfl rfl rfl (hs.1 h8)) (hJ2 _ hl3)
      · exact iteF (spill_cond (x := y) (r := r) (s := s) rfl rfl rfl rfl rfl hs.2) (hJ2 _ hl3)
    · rintro h3 J2 hl3
      exact hJ _ (hl2.trans hl3)
  · rintro h2 J hl2
    simp only [List.cons_append, List.nil_append]
    refine h_call0 (Q := fun q h' => h2.le h' ∧ q = faultV (0, 0, 0)) ?_ ?_
    · have e := s34 (h := h2) p (fewI 8 (r + 1)) (fewI 64 (s + 3)) v bs (SlAt.le blkC_mono hl2 hv1)
      have ha : 3 ≤ fewI 8 (r + 1) ∧ r ≤ fewI 8 (r + 1) ∧ fewI 8 (r + 1) ≤ 8 := by unfold fewI; split <;> omega
      have hb : s ≤ fewI 64 (s + 3) ∧ fewI 64 (s + 3) ≤ 64 := by unfold fewI; split <;> omega
      rw [mcheck_ok2 q1 q2 ha.1 ha.2.2 (by omega) hb.2 k1 k2 (fun b hb' => by
        obtain ⟨m1, m2, m3⟩ := k3 b hb'
        exact ⟨m1, fun y hy => mofM_more q3 ha.2.1 ha.2.2 hb.1 (m2 y hy), endM_more ha.2.1 m3⟩)] at e
      simp only [SV.denL, SV.den]
      rw [few_val (r := r) (d := 1) rfl (by omega) (by omega), few_val (r := s) (d := 3) rfl (by omega) (by omega)]
      exact e
    rintro _ h3 ⟨hl3, rfl⟩
    refine ⟨faultG (0, 0, 0), faultG_fit _, rfl, h_ite (fun hc => by cases hc) (fun _ => hJ0 _ ((hl.trans hl2).trans hl3))⟩
theorem s11 {h : H} {v vs mv : Value} {p r s : Int} {bs : List Blk} {p0 p1 p2 rg sl : Int} {l ml : List Int} (hv : BlksAt h v bs) (hs : BytesAt h vs l) (hmv : BytesAt h mv ml) (h0 : 0 ≤ p0) (h1 : 0 ≤ p1) (h2 : 0 ≤ p2) (hr : 0 ≤ rg ∧ rg ≤ 255) (hsl : 0 ≤ sl ∧ sl ≤ 255) :
    CallsA Try.prog 11 (fun _ => [.agg #[.int .i64 p, .int .i64 r, .int .i64 s, v], .agg #[.int .u8 p0, .int .u8 p1, .int .u8 p2, vs], .int .u8 rg, .int .u8 sl, mv]) [] h (Ret fun r h' => h.le h' ∧ r = .bool true) := by
  refine c11 (G := [.int .i64 p, .int .i64 r, .int .i64 s, v, .int .u8 p0, .int .u8 p1, .int .u8 p2, vs, .int .u8 rg, .int .u8 sl, mv]) ⟨⟨_, rfl⟩, ⟨_, rfl⟩, ⟨_, rfl⟩, hv.fit, ⟨_, rfl⟩, ⟨_, rfl⟩, ⟨_, rfl⟩, hs.fit, ⟨_, rfl⟩, ⟨_, rfl⟩, hmv.fit, trivial⟩ ?_
  refine h_call0 s32 ?_
  rintro _ h3 ⟨hl3, rfl⟩
  refine ⟨[.bool true], ⟨⟨_, rfl⟩, trivial⟩, rfl, h_ite (fun hc => by cases hc) (fun _ => h_call0 (s14 (SlAt.le blkC_mono hl3 hv)) ?_)⟩
  rintro _ _ ⟨rfl, bl, rfl, -⟩
  refine ⟨[.bool bl], ⟨⟨_, rfl⟩, trivial⟩, rfl, h_ite (fun _ => ⟨rfl, hl3, rfl⟩) (fun _ => ?_)⟩
  refine h_call0 (s33 (p0 := p0) (p1 := p1) (p2 := p2) (rg := rg) (sl := sl) (hs.le hl3) (hmv.le hl3) h0 h1 h2 hr hsl) ?_
  rintro _ h4 ⟨u, ds, fp, rfl, M, -⟩
  generalize madeP p0 = pp at *
  generalize mR rg = R at *
  generalize mS pp sl = S at *
  generalize madeN p2 = N at *
  have hl4 := hl3.trans M.kept.le_nil
  refine ⟨[.int .i64 pp, .int .i64 R, .int .i64 S, u], ⟨⟨_, rfl⟩, ⟨_, rfl⟩, ⟨_, rfl⟩, M.own.at.fit, trivial⟩, rfl, ?_⟩
  intro b5 hb5
  simp only [List.cons_append, List.nil_append]
  have hl5 := H.le_put (o := .cells [Value.int .i64 p, .int .i64 r, .int .i64 s, v, .int .i64 pp, .int .i64 R, .int .i64 S, u].toArray 67 (0, 0)) hb5
  have hv5 := SlAt.le blkC_mono (hl4.trans hl5) hv
  have hu5 := SlAt.le blkC_mono hl5 M.own.at
  refine h_range (n := 2) (fun i h' => (H.put _ b5 (.cells [Value.int .i64 p, .int .i64 r, .int .i64 s, v, .int .i64 pp, .int .i64 R, .int .i64 S, u].toArray 67 (0, 0))).le h') rfl (by omega) rfl (by omega) (H.le_refl _) ?_ ?_
  · rintro i h6 J hi hl6 hJ
    match i, hi with
    | 0, _ =>
      refine h_load [.int .i64 p, .int .i64 r, .int .i64 s, v] ⟨⟨_, rfl⟩, ⟨_, rfl⟩, ⟨_, rfl⟩, hv.fit, trivial⟩ (fun _ => Reads.le hl6 (Reads.put (o := 0) fun i v hi => ?_)) ?_
      · match i with
        | 0 => exact hi
        | 1 => exact hi
        | 2 => exact hi
        | 3 => exact hi
        | i + 4 => simp at hi
      · simp only [List.cons_append, List.nil_append]
        exact only_roundM (SlAt.le blkC_mono hl6 hv5) fun h' hl' => hJ _ (hl6.trans hl')
    | 1, _ =>
      refine h_load [.int .i64 pp, .int .i64 R, .int .i64 S, u] ⟨⟨_, rfl⟩, ⟨_, rfl⟩, ⟨_, rfl⟩, M.own.at.fit, trivial⟩ (fun _ => Reads.le hl6 (Reads.put (o := 4) fun i v hi => ?_)) ?_
      · match i with
        | 0 => exact hi
        | 1 => exact hi
        | 2 => exact hi
        | 3 => exact hi
        | i + 4 => simp at hi
      · simp only [List.cons_append, List.nil_append]
        exact only_roundM (SlAt.le blkC_mono hl6 hu5) fun h' hl' => hJ _ (hl6.trans hl')
  · rintro h6 J hl6
    exact ⟨rfl, (hl4.trans hl5).trans hl6, rfl⟩
namespace machOnly
theorem own : ownKnob Try.prog.godebug = none := by kernel_rfl
theorem laidOut : laidOutB Try.prog = true := by kernel_rfl
theorem contract (H : Type) (enc : TypeId × Value → H) (W : World) (base : Nat) (args : Array Value) (ds gs : List (DataW H)) (before : List MemPlace)
    (hval : ∀ (j : Nat) t v, Try.f11.params[j]? = some t → args[j]? = some v → Value.okWide Try.prog W .any base t v)
    (hW : DataW.Whole enc Try.prog Try.f11.params.toList Rows.machOnlySpec.vars false W args.toList ds gs before) :
    Calls Try.prog 11 args W fun e W' => ∃ v, e = .returned v ∧ Rows.machOnlySpec.post enc Try.prog Try.f11 false true false false W args v W' := by
  have hW' := hW
  obtain ⟨p, q, hA, hV, rfl, hfz, hnd⟩ := hW
  rw [Try.params11] at hA hval
  obtain ⟨v0, vs0, d0, ds0, p0, q0, hargs, rfl, rfl, h0, r0⟩ := trodAll_cons hA
  obtain ⟨v1, vs1, d1, ds1, p1, q1, rfl, rfl, rfl, h1, r1⟩ := trodAll_cons r0
  obtain ⟨v2, vs2, d2, ds2, p2, q2, rfl, rfl, rfl, h2, r2⟩ := trodAll_cons r1
  obtain ⟨v3, vs3, d3, ds3, p3, q3, rfl, rfl, rfl, h3, r3⟩ := trodAll_cons r2
  obtain ⟨v4, vs4, d4, ds4, p4, q4, rfl, rfl, rfl, h4, r4⟩ := trodAll_cons r3
  obtain ⟨rfl, rfl, rfl⟩ := trodAll_nil r4
  obtain rfl : args = #[v0, v1, v2, v3, v4] := by cases args; simp_all
  obtain ⟨cs0, rfl, -⟩ := okWide_struct Try.underlying67 (hval 0 67 v0 rfl rfl)
  obtain ⟨p, r, s, v, bs, he0, hv⟩ := rd_code (Rd.of h0)
  obtain rfl : cs0 = ([Value.int .i64 p, .int .i64 r, .int .i64 s, v]).toArray := by rw [← he0]; simp [Value.cells]
  obtain ⟨cs1, rfl, -⟩ := okWide_struct Try.underlying27 (hval 1 27 v1 rfl rfl)
  obtain ⟨p0, p1, p2, vs, l, he1, g0, g1, g2, hs⟩ := rd_spec (Rd.of h1)
  obtain rfl : cs1 = ([Value.int .u8 p0, .int .u8 p1, .int .u8 p2, vs]).toArray := by rw [← he1]; simp [Value.cells]
  obtain ⟨rg, rfl, -, -, wf2⟩ := open_int Try.underlying5 (hval 2 5 v2 rfl rfl) h2
  obtain ⟨sl, rfl, -, -, wf3⟩ := open_int Try.underlying5 (hval 3 5 v3 rfl rfl) h3
  obtain ⟨a4, n4, c4, rfl⟩ := okWide_slice Try.underlying25 (hval 4 25 v4 rfl rfl)
  obtain ⟨mv, ml, he4, hmv, -⟩ := rd_bytes (Rd.of h4)
  obtain rfl : Value.slice a4 n4 c4 = mv := by simpa [Value.cells] using he4
  refine (law_calls (f := 11) (args := [.agg ([Value.int .i64 p, .int .i64 r, .int .i64 s, v]).toArray, .agg ([Value.int .u8 p0, .int .u8 p1, .int .u8 p2, vs]).toArray, .int .u8 rg, .int .u8 sl, .slice a4 n4 c4]) (s11 hv hs hmv g0 g1 g2 (u8r wf2) (u8r wf3))).mono ?_
  rintro e' W' ⟨rfl, bel⟩
  exact ⟨_, rfl, law_post laidOut hW' rfl (of_decide_eq_true (by kernel_rfl)) rfl Try.underlying4 rfl bel⟩
set_option maxRecDepth 100000 in
theorem lifted (os : Os) (started : os.Started) (H : Type) (enc : TypeId × Value → H) :
    ReturnsInHanded {} Try.checked os 11 .any (Rows.machOnlySpec.pre6 enc Try.prog Try.f11 Rows.machOnlyRow.domain false) (Rows.machOnlySpec.post enc Try.prog Try.f11 false true false false) := by
  refine returnsInHanded_of_change (C := Try.checked) own started (by kernel_rfl) Try.func11
    (ChangeSpec.witness6 (enc := enc) (C := Try.checked) false ⟨#[], #[.agg #[.int .i64 0, .int .i64 0, .int .i64 0, .slice none 0 0], .agg #[.int .u8 0, .int .u8 0, .int .u8 0, .slice none 0 0], .int .u8 0, .int .u8 0, .slice none 0 0], []⟩ 8 (by kernel_rfl) (by kernel_rfl) (by kernel_rfl) (by kernel_rfl)) ?_
  intro W base args ds gs before hval hW _ _
  exact contract H enc W base args ds gs before hval hW
theorem proved : Rows.MachOnlySaid :=
  OpenClaim.holds_of_wide 11 Try.f11 rfl rfl rfl rfl rfl rfl rfl ⟨rfl, rfl, rfl, rfl, rfl⟩ rfl rfl rfl rfl rfl (by kernel_rfl) Try.func11 (by kernel_rfl)
    (of_decide_eq_true (by kernel_rfl)) (by unfold Func.isWrapper; first | (rw [if_pos (by decide +kernel)]; kernel_rfl) | (rw [if_neg (by decide +kernel)]; exact ⟨rfl, rfl⟩))
    (fun os started H enc _ => lifted os started H enc)
end machOnly
/-- The row, under a short name, for the claim. -/
theorem machOnlyHolds : Rows.MachOnlySaid := machOnly.proved
#print axioms machOnlyHolds
end Go.Proofs.Ytibdneedfopcoaa
