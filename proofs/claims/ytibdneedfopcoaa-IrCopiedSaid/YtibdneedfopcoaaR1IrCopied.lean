/-
  The law IrCopied answers true. Conditions: none.
-/
import Derived.Test.YtibdneedfopcoaaR1Co
import Derived.Test.YtibdneedfopcoaaR1S
import Derived.Test.YtibdneedfopcoaaR1IrOnly
set_option linter.unusedVariables false
set_option linter.unusedSimpArgs false
namespace Go.Proofs.Ytibdneedfopcoaa
open Go Go.ChangeShapes Go.WideShapes Go.ChangeAt Go.RowKit

theorem blk_single {h : H} {b : Nat} {w : Value} {x : Blk} (hw : SlAt 7 InsC h w x.ins) (hb : h b = none) :
    BlksAt (h.put b (.cells (w :: endC x.en).toArray 41 (0, 0))) (.slice (some ⟨b, 0, none⟩) 1 1) [x] := by
  refine ⟨⟨_, _, _, rfl, (fun e => by cases e), Nat.le_refl _⟩, rfl, fun i y hi => ?_⟩
  obtain ⟨rfl, rfl⟩ := get_one hi
  exact ⟨_, ⟨w, rfl, SlAt.le insC_mono (H.le_put hb) hw⟩, Reads.put (o := 0) fun i v hi => by simpa using hi⟩
def IX4 : X := .op .rem .i64 (.conv .i64 (.var 4)) (.len 11)
theorem ix4_val {b : Int} {m : Nat} (hb : 0 ≤ b ∧ b ≤ 255) (hm : 0 < m) : ∃ i : Nat, i < m ∧ ∀ G : List Value, vlen (gv G 11) = m → gv G 4 = .int .u8 b → vi (IX4.den G) = (i : Int) := by
  have := tmod_range (a := b) (n := m) hb.1 (by omega)
  refine ⟨(b.tmod m).toNat, by omega, fun G h1 h2 => ?_⟩
  simp only [IX4, X.den, h1, h2, vi_int, intOp]
  rw [wrap_i64 (by omega) (by omega)]; omega
theorem s8 {h : H} {vs : Value} {l : List Int} {p0 p1 p2 b k fd n : Int} (hs : BytesAt h vs l) (h0 : 0 ≤ p0) (h1 : 0 ≤ p1) (h2 : 0 ≤ p2) (hb : 0 ≤ b ∧ b ≤ 255) (hk : 0 ≤ k ∧ k ≤ 255) :
    CallsA Try.prog 8 (fun _ => [.agg #[.int .u8 p0, .int .u8 p1, .int .u8 p2, vs], .int .u8 b, .int .u8 k, .int .u8 fd, .int .i64 n]) [] h (Ret fun r h' => h.le h' ∧ r = .bool true) := by
  refine c8 (G := [.int .u8 p0, .int .u8 p1, .int .u8 p2, vs, .int .u8 b, .int .u8 k, .int .u8 fd, .int .i64 n]) ⟨⟨_, rfl⟩, ⟨_, rfl⟩, ⟨_, rfl⟩, hs.fit, ⟨_, rfl⟩, ⟨_, rfl⟩, ⟨_, rfl⟩, ⟨_, rfl⟩, trivial⟩ ?_
  have hsm := made_small (l := l) h0 h1 h2 hs.inB
  have hbl := madeB_len (p0 := p0) (p1 := p1) (l := l) h2
  have hN := madeN_range h2
  refine h_call0 s13 ?_
  rintro r ha ⟨hla, rfl⟩
  refine ⟨[.bool true], ⟨⟨_, rfl⟩, trivial⟩, rfl, h_iteF rfl (h_call0 (s15 (p0 := p0) (p1 := p1) (p2 := p2) (hs.le hla) h0 h1 h2) ?_)⟩
  rintro r h3 ⟨hk3, u, fp, rfl, hu, hf, hnd⟩
  have hl3 := hla.trans hk3.le_nil
  have hul := hu.len (by omega)
  refine ⟨[.int .i64 (madeP p0), .int .i64 (madeV p0 p1), u], ⟨⟨_, rfl⟩, ⟨_, rfl⟩, hu.at.fit, trivial⟩, rfl, ?_⟩
  simp only [List.cons_append, List.nil_append]
  obtain ⟨i, hi, hix⟩ := ix4_val (m := (madeB p0 p1 p2 l).length) hb (by omega)
  have hx : (madeB p0 p1 p2 l)[i]? = some (madeB p0 p1 p2 l)[i] := List.getElem?_eq_getElem hi
  have hmem : (madeB p0 p1 p2 l)[i] ∈ madeB p0 p1 p2 l := List.getElem_mem _
  generalize (madeB p0 p1 p2 l)[i] = x at hx hmem
  obtain ⟨hx1, hx2⟩ := hsm.2 x hmem
  obtain ⟨_, ⟨w, rfl, hw⟩, hr⟩ := hu.at.get i x hx
  have hi4 := hix [.int .u8 p0, .int .u8 p1, .int .u8 p2, vs, .int .u8 b, .int .u8 k, .int .u8 fd, .int .i64 n, .bool true, .int .i64 (madeP p0), .int .i64 (madeV p0 p1), u] hul rfl
  have hrd : ∀ tl, Reads h3 (PE.den (.int .u8 p0 :: .int .u8 p1 :: .int .u8 p2 :: vs :: .int .u8 b :: .int .u8 k :: .int .u8 fd :: .int .i64 n :: .bool true :: .int .i64 (madeP p0) :: .int .i64 (madeV p0 p1) :: u :: tl) (.idx (.var 11) IX4 5)) (w :: endC x.en) := fun tl => by
    have := hix (.int .u8 p0 :: .int .u8 p1 :: .int .u8 p2 :: vs :: .int .u8 b :: .int .u8 k :: .int .u8 fd :: .int .i64 n :: .bool true :: .int .i64 (madeP p0) :: .int .i64 (madeV p0 p1) :: u :: tl) hul rfl
    simp only [PE.den, this, Int.toNat_natCast]
    exact hr
  refine ⟨fun _ => ⟨?_, trivial⟩, fun _ => ⟨?_, ?_, trivial⟩, h_load (w :: endC x.en) ⟨hw.fit, endFit x.en⟩ (fun _ => hrd _) ⟨fun _ => hrd _, ?_⟩⟩
  · show cmpOp .neq ((vlen u : Nat) : Int) 0 = true
    rw [hul, cmp_neq, decide_eq_true_eq]; omega
  · show cmpOp .geq (vi (IX4.den [.int .u8 p0, .int .u8 p1, .int .u8 p2, vs, .int .u8 b, .int .u8 k, .int .u8 fd, .int .i64 n, .bool true, .int .i64 (madeP p0), .int .i64 (madeV p0 p1), u])) 0 = true
    rw [hi4, cmp_geq, decide_eq_true_eq]; omega
  · show cmpOp .lss (vi (IX4.den [.int .u8 p0, .int .u8 p1, .int .u8 p2, vs, .int .u8 b, .int .u8 k, .int .u8 fd, .int .i64 n, .bool true, .int .i64 (madeP p0), .int .i64 (madeV p0 p1), u])) ((vlen u : Nat) : Int) = true
    rw [hi4, hul, cmp_lss, decide_eq_true_eq]; omega
  simp only [List.cons_append, List.nil_append, endC]
  refine h_call0 (s29 hw hx1 hx2) ?_
  rintro r h4 ⟨hk4, u4, fp4, rfl, hu4, hf4, hnd4⟩
  have hu4a : SlAt 7 InsC h4 u4 x.ins := SlF.at (sz := 7) (by omega) insF_at hu4
  refine ⟨u4 :: endC x.en, ⟨hu4a.fit, endFit x.en⟩, rfl, ?_⟩
  simp only [List.cons_append, List.nil_append, endC]
  intro b5 hb5 b6 hb6
  have q5 := H.le_put (o := .cells (w :: endC x.en).toArray 41 (0, 0)) hb5
  have q6 := H.le_put (o := .cells (u4 :: endC x.en).toArray 41 (0, 0)) hb6
  have B5 := blk_single (x := x) (SlAt.le insC_mono hk4.le_nil hw) hb5
  have B6 := blk_single (x := x) (SlAt.le insC_mono q5 hu4a) hb6
  have hsx : ∀ y ∈ [x], y.ins.length ≤ 100000 ∧ ∀ z ∈ y.ins, z.args.length ≤ 100000 := fun y hy => by
    rw [List.mem_singleton] at hy; subst hy
    exact ⟨by omega, fun z hz => by have := hx2 z hz; omega⟩
  refine h_call0 (s30 (SlAt.le blkC_mono q6 B5) B6 (by simp) hsx) ?_
  rintro r h6 ⟨e6, rfl⟩
  refine ⟨[.bool true], ⟨⟨_, rfl⟩, trivial⟩, rfl, h_iteF rfl ?_⟩
  intro b7 hb7
  have hle6 : h4.le h6 := by rw [e6]; exact q5.trans q6
  have hk6 : KeptH h4 h6 [] := fun y _ hy => by
    cases e : h4 y with
    | none => rw [e] at hy; cases hy
    | some o => rw [← e]; exact (hle6 y o e).trans e.symm
  have hu6 := hu4.agree insF_good (hk6.agree (hu4.live insF_good) fun b _ => by simp)
  have hk7 : KeptH h6 (h6.put b7 (.cells (u4 :: endC x.en).toArray 41 (0, 0))) [] := KeptH.put hb7 _
  have hu7 := hu6.agree insF_good (hk7.agree (hu6.live insF_good) fun b _ => by simp)
  have own7 : OwnBlks (h6.put b7 (.cells (u4 :: endC x.en).toArray 41 (0, 0))) (.slice (some ⟨b7, 0, none⟩) 1 1) [x] ([b7] ++ fp4) := by
    refine ⟨[⟨u4 :: endC x.en, x, fp4⟩], [b7], rfl, by simp [fpE], ?_, fun t ht => ?_⟩
    · have := RowF.new (h := h6) (e := 41) (sz := 5) (b := b7) (n := 1) (c := 1) (cs := u4 :: endC x.en) (r := []) rfl rfl (Nat.le_refl _)
      simpa [cellsE] using this
    · rw [List.mem_singleton] at ht; subst ht
      exact ⟨rfl, u4, rfl, hu7⟩
  have hl6 := hu6.live insF_good
  have nd7 : ([b7] ++ fp4).Nodup := nodup_app (by simp) hnd4 fun y hy hy' => by
    rw [List.mem_singleton] at hy; subst hy
    have := hl6 _ hy'; rw [hb7] at this; cases this
  have sm7 : Small [x] := ⟨by simp, fun y hy => by rw [List.mem_singleton] at hy; subst hy; exact ⟨hx1, hx2⟩⟩
  refine h_call0 (Q := fun r h' => r = .tuple #[] ∧ ∃ bs' fp', OwnBlks h' (.slice (some ⟨b7, 0, none⟩) 1 1) bs' fp' ∧ fp'.Nodup ∧ KeptH (h6.put b7 (.cells (u4 :: endC x.en).toArray 41 (0, 0))) h' ([b7] ++ fp4) ∧ ∀ b ∈ fp', b ∈ [b7] ++ fp4 ∨ (h6.put b7 (.cells (u4 :: endC x.en).toArray 41 (0, 0))) b = none)
    (s18 (b := 0) own7 nd7 sm7 ⟨Int.le_refl _, by omega⟩ hk) ?_
  rintro r h8 ⟨rfl, bs', fp', -, -, hk8, -⟩
  have lu3 := hu.live blkF_good
  have u4' := hu.agree blkF_good (hk4.agree lu3 fun b _ => by simp)
  have u6' := u4'.agree blkF_good (hk6.agree (u4'.live blkF_good) fun b _ => by simp)
  have lu6 := u6'.live blkF_good
  have u7' := u6'.agree blkF_good (hk7.agree lu6 fun b _ => by simp)
  have u8' := u7'.agree blkF_good (hk8.agree (u7'.live blkF_good) fun y hy hy' => by
    rcases List.mem_append.1 hy' with e | e
    · rw [List.mem_singleton] at e; subst e
      have := lu6 _ hy; rw [hb7] at this; cases this
    · have := lu3 y hy; rw [hf4 y e] at this; cases this)
  have hle8 : h.le h8 := hk8.le (((hl3.trans hk4.le_nil).trans hle6).trans hk7.le_nil) fun y hy => by
    rcases List.mem_append.1 hy with e | e
    · rw [List.mem_singleton] at e; subst e
      exact H.le_none ((hl3.trans hk4.le_nil).trans hle6) hb7
    · exact H.le_none hl3 (hf4 y e)
  refine ⟨[], trivial, rfl, ?_⟩
  simp only [List.cons_append, List.nil_append]
  refine h_call0 (s15 (p0 := p0) (p1 := p1) (p2 := p2) (hs.le hle8) h0 h1 h2) ?_
  rintro r h9 ⟨hk9, u9, fp9, rfl, hu9, -, -⟩
  have u9' := u8'.agree blkF_good (hk9.agree (u8'.live blkF_good) fun b _ => by simp)
  refine ⟨[.int .i64 (madeP p0), .int .i64 (madeV p0 p1), u9], ⟨⟨_, rfl⟩, ⟨_, rfl⟩, hu9.at.fit, trivial⟩, rfl, ?_⟩
  simp only [List.cons_append, List.nil_append]
  refine h_call0 (s31 (OwnBlks.at u9') hu9.at (by have := hsm.1; omega) fun y hy => ⟨by have := (hsm.2 y hy).1; omega, fun z hz => by have := (hsm.2 y hy).2 z hz; omega⟩) ?_
  rintro r _ ⟨rfl, rfl⟩
  exact ⟨[.bool true], ⟨⟨_, rfl⟩, trivial⟩, rfl, rfl, hle8.trans hk9.le_nil, rfl⟩
namespace irCopied
theorem own : ownKnob Try.prog.godebug = none := by kernel_rfl
theorem laidOut : laidOutB Try.prog = true := by kernel_rfl
theorem contract (H : Type) (enc : TypeId × Value → H) (W : World) (base : Nat) (args : Array Value) (ds gs : List (DataW H)) (before : List MemPlace)
    (hval : ∀ (j : Nat) t v, Try.f8.params[j]? = some t → args[j]? = some v → Value.okWide Try.prog W .any base t v)
    (hW : DataW.Whole enc Try.prog Try.f8.params.toList Rows.irCopiedSpec.vars false W args.toList ds gs before) :
    Calls Try.prog 8 args W fun e W' => ∃ v, e = .returned v ∧ Rows.irCopiedSpec.post enc Try.prog Try.f8 false true false false W args v W' := by
  have hW' := hW
  obtain ⟨p, q, hA, hV, rfl, hfz, hnd⟩ := hW
  rw [Try.params8] at hA hval
  obtain ⟨v0, vs0, d0, ds0, p0, q0, hargs, rfl, rfl, h0, r0⟩ := trodAll_cons hA
  obtain ⟨v1, vs1, d1, ds1, p1, q1, rfl, rfl, rfl, h1, r1⟩ := trodAll_cons r0
  obtain ⟨v2, vs2, d2, ds2, p2, q2, rfl, rfl, rfl, h2, r2⟩ := trodAll_cons r1
  obtain ⟨v3, vs3, d3, ds3, p3, q3, rfl, rfl, rfl, h3, r3⟩ := trodAll_cons r2
  obtain ⟨v4, vs4, d4, ds4, p4, q4, rfl, rfl, rfl, h4, r4⟩ := trodAll_cons r3
  obtain ⟨rfl, rfl, rfl⟩ := trodAll_nil r4
  obtain rfl : args = #[v0, v1, v2, v3, v4] := by cases args; simp_all
  obtain ⟨cs0, rfl, -⟩ := okWide_struct Try.underlying27 (hval 0 27 v0 rfl rfl)
  obtain ⟨p0, p1, p2, vs, l, he0, g0, g1, g2, hs⟩ := rd_spec (Rd.of h0)
  obtain rfl : cs0 = ([Value.int .u8 p0, .int .u8 p1, .int .u8 p2, vs]).toArray := by rw [← he0]; simp [Value.cells]
  obtain ⟨b, rfl, -, -, wf1⟩ := open_int Try.underlying5 (hval 1 5 v1 rfl rfl) h1
  obtain ⟨k, rfl, -, -, wf2⟩ := open_int Try.underlying5 (hval 2 5 v2 rfl rfl) h2
  obtain ⟨fd, rfl, -, -, wf3⟩ := open_int Try.underlying5 (hval 3 5 v3 rfl rfl) h3
  obtain ⟨m, rfl, -, -, wf4⟩ := open_int Try.underlying3 (hval 4 3 v4 rfl rfl) h4
  refine (law_calls (f := 8) (args := [.agg ([Value.int .u8 p0, .int .u8 p1, .int .u8 p2, vs]).toArray, .int .u8 b, .int .u8 k, .int .u8 fd, .int .i64 m]) (s8 hs g0 g1 g2 (u8r wf1) (u8r wf2))).mono ?_
  rintro e' W' ⟨rfl, bel⟩
  exact ⟨_, rfl, law_post laidOut hW' rfl (of_decide_eq_true (by kernel_rfl)) rfl Try.underlying4 rfl bel⟩
set_option maxRecDepth 100000 in
theorem lifted (os : Os) (started : os.Started) (H : Type) (enc : TypeId × Value → H) :
    ReturnsInHanded {} Try.checked os 8 .any (Rows.irCopiedSpec.pre6 enc Try.prog Try.f8 Rows.irCopiedRow.domain false) (Rows.irCopiedSpec.post enc Try.prog Try.f8 false true false false) := by
  refine returnsInHanded_of_change (C := Try.checked) own started (by kernel_rfl) Try.func8
    (ChangeSpec.witness6 (enc := enc) (C := Try.checked) false ⟨#[], #[.agg #[.int .u8 0, .int .u8 0, .int .u8 0, .slice none 0 0], .int .u8 0, .int .u8 0, .int .u8 0, .int .i64 0], []⟩ 8 (by kernel_rfl) (by kernel_rfl) (by kernel_rfl) (by kernel_rfl)) ?_
  intro W base args ds gs before hval hW _ _
  exact contract H enc W base args ds gs before hval hW
theorem proved : Rows.IrCopiedSaid :=
  OpenClaim.holds_of_wide 8 Try.f8 rfl rfl rfl rfl rfl rfl rfl ⟨rfl, rfl, rfl, rfl, rfl⟩ rfl rfl rfl rfl rfl (by kernel_rfl) Try.func8 (by kernel_rfl)
    (of_decide_eq_true (by kernel_rfl)) (by unfold Func.isWrapper; first | (rw [if_pos (by decide +kernel)]; kernel_rfl) | (rw [if_neg (by decide +kernel)]; exact ⟨rfl, rfl⟩))
    (fun os started H enc _ => lifted os started H enc)
end irCopied
/-- The row, under a short name, for the claim. -/
theorem irCopiedHolds : Rows.IrCopiedSaid := irCopied.proved
#print axioms irCopiedHolds
end Go.Proofs.Ytibdneedfopcoaa
