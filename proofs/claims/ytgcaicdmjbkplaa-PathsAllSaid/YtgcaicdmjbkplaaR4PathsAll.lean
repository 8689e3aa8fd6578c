/-
  The law PathsAll answers true. Conditions: none.
-/
import Derived.Test.YtgcaicdmjbkplaaR4P
import Derived.Test.YtgcaicdmjbkplaaRows
set_option linter.unusedVariables false
set_option linter.unusedSimpArgs false
namespace Go.Proofs.Ytgcaicdmjbkplaa
open Go Go.ChangeShapes Go.WideShapes Go.ChangeAt Go.RowKit

theorem len_ofNat {l : List Nat} {n : Nat} (h : l.length ≤ n) : (l.map Int.ofNat).length ≤ n := by rw [List.length_map]; exact h
theorem aheadM_len (B : List Blk) (n : Nat) : (aheadM B n).length ≤ B.length := aheadI_len B n B.length
theorem cnt_succ (p : Nat → Bool) (b : Nat) : ((List.range (b + 1)).filter p).length = ((List.range b).filter p).length + if p b then 1 else 0 := by
  rw [List.range_succ, List.filter_append, List.length_append]
  congr 1
  cases h : p b <;> simp [h]
theorem cnt_le (p : Nat → Bool) (b : Nat) : ((List.range b).filter p).length ≤ b := by
  have := List.length_filter_le p (List.range b)
  rwa [List.length_range] at this
set_option maxRecDepth 8000 in
theorem s4 {h : H} {vs : Value} {p0 p1 p2 : Int} {l : List Int} (hs : BytesAt h vs l) (h0 : 0 ≤ p0) (h1 : 0 ≤ p1) (h2 : 0 ≤ p2) :
    CallsA Try.prog 4 (fun _ => [.agg #[.int .u8 p0, .int .u8 p1, .int .u8 p2, vs]]) [] h (Ret fun r h' => h.le h' ∧ r = .bool true) := by
  refine c4 (G := [.int .u8 p0, .int .u8 p1, .int .u8 p2, vs]) ⟨⟨_, rfl⟩, ⟨_, rfl⟩, ⟨_, rfl⟩, hs.fit, trivial⟩ ?_
  obtain ⟨hB, hB1, hB7⟩ := made_B h0 h1 h2 hs.inB
  refine h_call0 s6 ?_
  rintro _ g1 ⟨hl1, rfl⟩
  refine ⟨[.bool true], ⟨⟨_, rfl⟩, trivial⟩, rfl, iteF rfl ?_⟩
  refine h_call0 (s7 (p0 := p0) (p1 := p1) (p2 := p2) (hs.le hl1) h0 h1 h2) ?_
  rintro _ g2 ⟨hk2, u, fp, rfl, hu, hfp, hnd⟩
  generalize madeB p0 p1 p2 l = B at hB hB1 hB7 hu
  have hua := hu.at
  have hul := hua.len
  have hle2 : h.le g2 := hl1.trans hk2.le_nil
  refine ⟨[.int .i64 (madeP p0), .int .i64 (madeV p0 p1), u], ⟨⟨_, rfl⟩, ⟨_, rfl⟩, hua.fit, trivial⟩, rfl, ?_⟩
  simp only [List.cons_append, List.nil_append]
  refine h_call0 (s11 hua hB (by omega)) ?_
  rintro va g3 ⟨hl3, ha⟩
  have hal := ha.len
  rw [List.length_map, List.length_range] at hal
  refine ⟨[va], ⟨ha.fit, trivial⟩, rfl, ?_⟩
  simp only [List.cons_append, List.nil_append]
  have hu3 := SlAt.le blkC_mono hl3 hua
  refine h_call0 (s8 hu3 hB hB1 (by omega)) ?_
  rintro _ g4 ⟨hl4, vw, ws, fw, rfl, hw, hr⟩
  refine ⟨[vw], ⟨hw.fit, trivial⟩, rfl, ?_⟩
  simp only [List.cons_append, List.nil_append]
  have hu4 := SlAt.le blkC_mono hl4 hu3
  refine h_call0 (s12 hu4 hB hB1 (by omega)) ?_
  rintro vc g5 ⟨hl5, bs, fb, hc5, hcl5, hcr⟩
  have hvc := hc5.row0.fit
  have hcl := len_of_rowF hc5
  rw [List.length_map, hcl5] at hcl
  refine ⟨[vc], ⟨hvc, trivial⟩, rfl, ?_⟩
  simp only [List.cons_append, List.nil_append]
  have hu5 := SlAt.le blkC_mono hl5 hu4
  refine iteT ?_ ?_
  · show (!(cmpOp .neq ((vlen va : Nat) : Int) ((vlen u : Nat) : Int))) = true
    rw [hal, hul, cmp_neq]; simp
  refine h_call0 (s14 hu5 hB hB1 (by omega)) ?_
  rintro vo g6 ⟨hl6, ho⟩
  refine ⟨[vo], ⟨ho.fit, trivial⟩, rfl, ?_⟩
  simp only [List.cons_append, List.nil_append]
  have hu6 := SlAt.le blkC_mono hl6 hu5
  refine h_call0 (s15 hu6 hB hB1 (by omega)) ?_
  rintro vq g7 ⟨hl7, hq⟩
  refine ⟨[vq], ⟨hq.fit, trivial⟩, rfl, ?_⟩
  simp only [List.cons_append, List.nil_append]
  have hol : (orderM B).length ≤ 1000 := by
    have := downM_len hB B.length 0 ([], []) (by omega)
    rw [csM_nil] at this
    unfold orderM; rw [List.length_reverse]
    simp only [List.length_nil] at this
    omega
  refine h_call0 (s13 (ho.le hl7) hq (by rw [List.length_map]; omega)) ?_
  rintro _ g8 ⟨e8, rfl⟩
  have e8' := e8.symm
  subst e8'
  rw [decide_eq_true rfl]
  refine ⟨[.bool true], ⟨⟨_, rfl⟩, trivial⟩, rfl, iteF rfl ?_⟩
  simp only [List.cons_append, List.nil_append]
  have hle7 : h.le g7 := ((((hle2.trans hl3).trans hl4).trans hl5).trans hl6).trans hl7
  have hu7 := SlAt.le blkC_mono hl7 hu6
  have ha7 := SlAt.le intsC_mono (((hl4.trans hl5).trans hl6).trans hl7) ha
  have hwd : WordsAt g7 vw ws := SlAt.le u64C_mono ((hl5.trans hl6).trans hl7) (rowF_words hw.1)
  have hc7 : RowF g7 4 1 vc (bs.map .bool) fb := hc5.agree (KeptH.agree (H.le.kept (hl6.trans hl7)) hc5.live fun b _ => by simp)
  have hlt : ∀ x, hasW ws x = true → x < B.length := fun x hx => ((hr x).1 hx).lt hB hB1
  have heq : ∀ x, trB bs x = hasW ws x := fun x => by
    cases e : hasW ws x with
    | true => exact (hcr x).2 ((hr x).1 e)
    | false =>
      cases e2 : trB bs x with
      | false => rfl
      | true => have := (hr x).2 ((hcr x).1 e2); rw [e] at this; cases this
  refine h_loop (fun xs h' => ∃ b : Nat, xs = [.int .i64 ((((List.range b).filter (hasW ws)).length : Nat) : Int), .int .i64 (b : Int)] ∧ b ≤ B.length ∧ g7.le h') (fun xs h' => (B.length - vi (gv xs 1)).toNat) ⟨0, rfl, by omega, H.le_refl _⟩ ?_
  rintro xs h' J - ⟨b, rfl, hb, hle⟩ hJ
  simp only [List.cons_append, List.nil_append]
  have hlen' := ha7.len
  refine h_ite (fun hc => ?_) (fun hc => ?_)
  · replace hc : cmpOp .lss (b : Int) ((vlen u : Nat) : Int) = true := hc
    rw [hul, cmp_lss, decide_eq_true_eq] at hc
    have hbl : b < B.length := by omega
    have hx := List.getElem?_eq_getElem hbl
    generalize B[b] = x at hx
    have ndn : ∀ {D : List Value} {q w : Nat} {vv : Value}, gv D q = .int .i64 (b : Int) → gv D w = vv → vlen vv = B.length → needs D [(.cmp .geq (.var q) (.lit 0)), (.cmp .lss (.var q) (.len w))] := fun {D q w vv} e1 e2 e3 => by
      simp only [needs, X.den, e1, e2, e3, vb_bool, vi_int, and_true]
      exact ⟨ge0 b, ltN hbl⟩
    have hcb : (bs.map Value.bool)[b]? = some (.bool (hasW ws b)) := by rw [List.getElem?_map, trB_at (by omega), heq]; rfl
    have rdc : ∀ {g : H}, g7.le g → Reads g ((vaddr vc).add (b * 1)) [.bool (hasW ws b)] := fun hg => (rowF_read hc7 hcb).le hg
    obtain ⟨cs, ⟨ua, rfl, hua'⟩, hra⟩ := ha7.get b (aheadM B b) (by rw [List.getElem?_map, List.getElem?_range hbl]; rfl)
    have rdx : ∀ {g : H}, g7.le g → Reads g (((vaddr u).add (b * 5)).add 1) (endC x.en) := fun hg => by rw [add_add]; exact blks_get (SlAt.le blkC_mono hg hu7) hx
    refine ⟨fun _ => ndn rfl rfl hcl, h_load [.bool (hasW ws b)] ⟨⟨_, rfl⟩, trivial⟩ (fun _ => rdc hle) ⟨fun _ => ndn rfl rfl hal, h_load [ua] ⟨hua'.fit, trivial⟩ (fun _ => hra.le hle) ?_⟩⟩
    simp only [List.cons_append, List.nil_append]
    refine h_call0 (s16 (n := b) (SlAt.le blkC_mono hle hu7) hB (by omega)) ?_
    rintro vr g9 ⟨hl9, hr9⟩
    have hle9 : g7.le g9 := hle.trans hl9
    refine ⟨[vr], ⟨hr9.fit, trivial⟩, rfl, ?_⟩
    simp only [List.cons_append, List.nil_append]
    refine ⟨fun _ => hra.le hle9, ?_⟩
    have hal' := aheadM_len B b
    refine h_call0 (s13 (hua'.le hle9) hr9 (by rw [List.length_map]; omega)) ?_
    rintro _ g10 ⟨e10, rfl⟩
    have e10' := e10.symm
    subst e10'
    rw [decide_eq_true rfl]
    refine ⟨[.bool true], ⟨⟨_, rfl⟩, trivial⟩, rfl, ?_⟩
    simp only [List.cons_append, List.nil_append]
    refine ⟨fun _ => ndn rfl rfl hul, h_load (endC x.en) (endFit x.en) (fun _ => rdx hle9) ⟨fun _ => ndn rfl rfl hul, h_load (endC x.en) (endFit x.en) (fun _ => rdx hle9) (iteT rfl ?_)⟩⟩
    simp only [endC, List.cons_append, List.nil_append]
    refine h_call0 (s10 x.en) ?_
    rintro v1 g11 ⟨hl11, ho11⟩
    have hle11 := hle9.trans hl11
    refine ⟨[v1], ⟨ho11.ints.fit, trivial⟩, rfl, ?_⟩
    simp only [List.cons_append, List.nil_append]
    refine ⟨fun _ => rdx hle11, ?_⟩
    refine h_call0 (s17 x.en) ?_
    rintro v2 g12 ⟨hl12, ho12⟩
    have hle12 := hle11.trans hl12
    refine ⟨[v2], ⟨ho12.ints.fit, trivial⟩, rfl, ?_⟩
    simp only [List.cons_append, List.nil_append]
    refine h_call0 (s13 (ho11.ints.le hl12) ho12.ints (by unfold nextL; split <;> (try split) <;> simp)) ?_
    rintro _ g13 ⟨e13, rfl⟩
    have e13' := e13.symm
    subst e13'
    rw [decide_eq_true rfl]
    refine ⟨[.bool true], ⟨⟨_, rfl⟩, trivial⟩, rfl, ?_⟩
    simp only [List.cons_append, List.nil_append]
    refine ⟨fun _ => ndn rfl rfl hcl, h_load [.bool (hasW ws b)] ⟨⟨_, rfl⟩, trivial⟩ (fun _ => rdc hle12) (iteT rfl ?_)⟩
    simp only [List.cons_append, List.nil_append]
    refine h_call0 (s9 (x := b) (SlAt.le u64C_mono hle12 hwd) hw.2.1 (by omega)) ?_
    rintro _ g14 ⟨e14, rfl⟩
    have e14' := e14.symm
    subst e14'
    refine ⟨[.bool (hasW ws b)], ⟨⟨_, rfl⟩, trivial⟩, rfl, ?_⟩
    simp only [List.cons_append, List.nil_append]
    refine ⟨fun _ => rdc hle12, iteF ?_ ?_⟩
    · show vb (if hasW ws b = true then Value.bool (!hasW ws b) else Value.bool (hasW ws b)) = false
      cases hasW ws b <;> rfl
    · have hcn := cnt_le (hasW ws) b
      have hcs := cnt_succ (hasW ws) b
      show J [.int .i64 (vi (if hasW ws b = true then Value.int .i64 (intOp .add .i64 ((((List.range b).filter (hasW ws)).length : Nat) : Int) 1) else Value.int .i64 ((((List.range b).filter (hasW ws)).length : Nat) : Int))), .int .i64 (intOp .add .i64 (b : Int) 1)] _
      rw [int_add_one (k := b) (n := 1000) (by omega) (by omega), int_add_one (k := ((List.range b).filter (hasW ws)).length) (n := 1000) (by omega) (by omega)]
      refine hJ _ _ ⟨b + 1, ?_, by omega, hle12⟩ ?_
      · rw [hcs]
        cases hasW ws b <;> rfl
      · simp only [gv_zero, gv_succ, vi_int]; omega
  · replace hc : cmpOp .lss (b : Int) ((vlen u : Nat) : Int) = false := hc
    rw [hul, cmp_lss, decide_eq_false_iff_not] at hc
    have hbe : b = B.length := by omega
    subst hbe
    refine h_call0 (s18 (SlAt.le u64C_mono hle hwd) hw.2.1 hw.2.2 (fun y hy => by have := hlt y hy; omega)) ?_
    rintro _ g9 ⟨e9, rfl⟩
    have e9' := e9.symm
    subst e9'
    refine ⟨[.int .i64 ((((List.range 7).filter (hasW ws)).length : Nat) : Int)], ⟨⟨_, rfl⟩, trivial⟩, rfl, rfl, hle7.trans hle, ?_⟩
    show Value.bool (cmpOp .eql ((((List.range 7).filter (hasW ws)).length : Nat) : Int) ((((List.range B.length).filter (hasW ws)).length : Nat) : Int)) = _
    rw [filter_ext7 hB7 hlt, cmp_eql, decide_eq_true rfl]
namespace pathsAll
theorem own : ownKnob Try.prog.godebug = none := by kernel_rfl
set_option maxRecDepth 100000 in
theorem laidOut : laidOutB Try.prog = true := by kernel_rfl
set_option maxRecDepth 100000 in
theorem contract (H : Type) (enc : TypeId × Value → H) (W : World) (base : Nat) (args : Array Value) (ds gs : List (DataW H)) (before : List MemPlace)
    (hval : ∀ (j : Nat) t v, Try.f4.params[j]? = some t → args[j]? = some v → Value.okWide Try.prog W .any base t v)
    (hW : DataW.Whole enc Try.prog Try.f4.params.toList Rows.pathsAllSpec.vars false W args.toList ds gs before) :
    Calls Try.prog 4 args W fun e W' => ∃ v, e = .returned v ∧ Rows.pathsAllSpec.post enc Try.prog Try.f4 false true false false W args v W' := by
  have hW' := hW
  obtain ⟨p, q, hA, hV, rfl, hfz, hnd⟩ := hW
  rw [Try.params4] at hA hval
  obtain ⟨v0, vs0, d0, ds0, p0, q0, hargs, rfl, rfl, h0, r0⟩ := trodAll_cons hA
  obtain ⟨rfl, rfl, rfl⟩ := trodAll_nil r0
  obtain rfl : args = #[v0] := by cases args; simp_all
  obtain ⟨cs0, rfl, -⟩ := okWide_struct Try.underlying24 (hval 0 24 v0 rfl rfl)
  obtain ⟨p0, p1, p2, vs, l, he0, g0, g1, g2, hs⟩ := rd_spec (Rd.of h0)
  obtain rfl : cs0 = ([Value.int .u8 p0, .int .u8 p1, .int .u8 p2, vs]).toArray := by rw [← he0]; simp [Value.cells]
  refine (law_calls (f := 4) (args := [.agg ([Value.int .u8 p0, .int .u8 p1, .int .u8 p2, vs]).toArray]) (s4 hs g0 g1 g2)).mono ?_
  rintro e' W' ⟨rfl, bel⟩
  exact ⟨_, rfl, law_post laidOut hW' rfl (of_decide_eq_true (by kernel_rfl)) rfl Try.underlying4 rfl bel⟩
set_option maxRecDepth 100000 in
theorem lifted (os : Os) (started : os.Started) (H : Type) (enc : TypeId × Value → H) :
    ReturnsInHanded {} Try.checked os 4 .any (Rows.pathsAllSpec.pre6 enc Try.prog Try.f4 Rows.pathsAllRow.domain false) (Rows.pathsAllSpec.post enc Try.prog Try.f4 false true false false) := by
  refine returnsInHanded_of_change (C := Try.checked) own started (by kernel_rfl) Try.func4
    (ChangeSpec.witness6 (enc := enc) (C := Try.checked) false ⟨#[], #[.agg #[.int .u8 0, .int .u8 0, .int .u8 0, .slice none 0 0]], []⟩ 8 (by kernel_rfl) (by kernel_rfl) (by kernel_rfl) (by kernel_rfl)) ?_
  intro W base args ds gs before hval hW _ _
  exact contract H enc W base args ds gs before hval hW
set_option maxRecDepth 100000 in
theorem proved : Rows.PathsAllSaid :=
  OpenClaim.holds_of_wide 4 Try.f4 rfl rfl rfl rfl rfl rfl rfl ⟨rfl, rfl, rfl, rfl, rfl⟩ rfl rfl rfl rfl rfl (by kernel_rfl) Try.func4 (by kernel_rfl)
    (of_decide_eq_true (by kernel_rfl)) (by unfold Func.isWrapper; first | (rw [if_pos (by decide +kernel)]; kernel_rfl) | (rw [if_neg (by decide +kernel)]; exact ⟨rfl, rfl⟩))
    (fun os started H enc _ => lifted os started H enc)
end pathsAll
/-- The row, under a short name, for the claim. -/
theorem pathsAllHolds : Rows.PathsAllSaid := pathsAll.proved
#print axioms pathsAllHolds
end Go.Proofs.Ytgcaicdmjbkplaa
