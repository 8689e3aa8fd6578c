/-
  What code's check computes, and the fixed facts of layer 5. Conditions: as each contract says.
-/
import Derived.Test.YtibdneedfopcoaaR1B
set_option linter.unusedVariables false
set_option linter.unusedSimpArgs false
namespace Go.Proofs.Ytibdneedfopcoaa
open Go

def mapE (e : Int) : Int := if e = 21 then 23 else e
def mofM (x : Ins) (r s : Int) : Int :=
  if x.kind = 8 then (if x.op ≠ 0 ∨ x.b ≠ 0 ∨ x.n ≠ 0 ∨ x.args ≠ [] then 20 else if ¬ (0 ≤ x.d ∧ x.d < r) then 23 else if ¬ (0 ≤ x.a ∧ x.a < s) then 24 else 0)
  else if x.kind = 7 then (if x.op ≠ 0 ∨ x.b ≠ 0 ∨ x.n ≠ 0 ∨ x.args ≠ [] then 20 else if ¬ (0 ≤ x.a ∧ x.a < r) then 23 else if ¬ (0 ≤ x.d ∧ x.d < s) then 24 else 0)
  else mapE (checkM 0 r [⟨[x], ⟨1, 0, 0, 0⟩⟩]).1
theorem s43 {h : H} (e : Int) : CallsA Try.prog 43 (fun _ => [.int .i64 e]) [] h (Ret fun r h' => h' = h ∧ r = .int .i64 (mapE e)) := by
  refine c43 (G := [.int .i64 e]) ⟨⟨_, rfl⟩, trivial⟩ ?_
  refine h_ite (fun hc => ⟨rfl, rfl, ?_⟩) (fun hc => ⟨rfl, rfl, ?_⟩)
  · simp only [holds, X.den, PE.den, SV.den, SV.denL, NK.val, NK.sv, NK.pub, gv_zero, gv_succ, vi_int, vb_bool, vlen_sl, vaddr_ptr, vb_ite, vi_ite, cmp_eql, cmp_neq, cmp_lss, cmp_leq, cmp_gtr, cmp_geq, List.map_nil, List.map_cons, List.cons_append, List.nil_append, List.flatten_nil, needs, Ret, true_and, and_true, decide_eq_true_eq, forall_const, intOp] at hc ⊢
    unfold mapE; rw [if_pos hc]
  · simp only [holds, X.den, PE.den, SV.den, SV.denL, NK.val, NK.sv, NK.pub, gv_zero, gv_succ, vi_int, vb_bool, vlen_sl, vaddr_ptr, vb_ite, vi_ite, cmp_eql, cmp_neq, cmp_lss, cmp_leq, cmp_gtr, cmp_geq, List.map_nil, List.map_cons, List.cons_append, List.nil_append, List.flatten_nil, needs, Ret, true_and, and_true, decide_eq_true_eq, forall_const, intOp, decide_eq_false_iff_not] at hc ⊢
    unfold mapE; rw [if_neg hc]
theorem s36 {h : H} (x : Ins) (v : Value) (hv : Fits .sl v) : CallsA Try.prog 36 (fun _ => [.agg (insC x v).toArray]) [] h (Ret fun r h' => h' = h ∧ r = .bool (decide (x.kind = 2 ∨ x.kind = 7 ∨ x.kind = 8))) := by
  refine c36 (G := insC x v) (insFit x v hv) ?_
  unfold t36
  simp only [holds, X.den, PE.den, SV.den, SV.denL, NK.val, NK.sv, NK.pub, gv_zero, gv_succ, vi_int, vb_bool, vlen_sl, vaddr_ptr, vb_ite, vi_ite, cmp_eql, cmp_neq, cmp_lss, cmp_leq, cmp_gtr, cmp_geq, List.map_nil, List.map_cons, List.cons_append, List.nil_append, List.flatten_nil, needs, Ret, true_and, and_true, decide_eq_true_eq, forall_const, intOp, insC, Value.bool.injEq]
  grind
theorem len_pos {l : List Int} {v : Value} (h : vlen v = l.length) : (0 : Int) < ((vlen v : Nat) : Int) ↔ l ≠ [] := by
  rw [h]; cases l <;> simp <;> omega
/-- One block, in a row of its own. -/
theorem blk_one {h : H} {b0 b1 : Nat} {x : Ins} {v : Value} {e : Fin4} (hv : IntsAt h v x.args) (hb0 : h b0 = none) (hb1 : H.put h b0 (.cells (insC x v).toArray 46 (0, 0)) b1 = none) :
    BlksAt (H.put (H.put h b0 (.cells (insC x v).toArray 46 (0, 0))) b1 (.cells (Value.slice (some ⟨b0, 0, none⟩) 1 1 :: endC e).toArray 41 (0, 0))) (.slice (some ⟨b1, 0, none⟩) 1 1) [⟨[x], e⟩] := by
  have hl0 := H.le_put (o := .cells (insC x v).toArray 46 (0, 0)) hb0
  have hl1 := H.le_put (o := .cells (Value.slice (some ⟨b0, 0, none⟩) 1 1 :: endC e).toArray 41 (0, 0)) hb1
  have hI : SlAt 7 InsC (H.put h b0 (.cells (insC x v).toArray 46 (0, 0))) (.slice (some ⟨b0, 0, none⟩) 1 1) [x] := by
    refine ⟨⟨_, _, _, rfl, (fun e => by cases e), Nat.le_refl _⟩, rfl, fun i y hi => ?_⟩
    obtain ⟨rfl, rfl⟩ := get_one hi
    exact ⟨_, ⟨_, rfl, hv.le hl0⟩, Reads.put (o := 0) fun i v hi => by simpa using hi⟩
  refine ⟨⟨_, _, _, rfl, (fun e => by cases e), Nat.le_refl _⟩, rfl, fun i y hi => ?_⟩
  obtain ⟨rfl, rfl⟩ := get_one hi
  exact ⟨_, ⟨_, rfl, SlAt.le insC_mono hl1 hI⟩, Reads.put (o := 0) fun i v hi => by simpa using hi⟩
theorem s42 {h : H} (x : Ins) (v : Value) (p r s : Int) (u : Value) (hv : IntsAt h v x.args) (hu : Fits .sl u) :
    CallsA Try.prog 42 (fun _ => [.agg (insC x v).toArray, .agg #[.int .i64 p, .int .i64 r, .int .i64 s, u]]) [] h (Ret fun q h' => h.le h' ∧ q = .int .i64 (mofM x r s)) := by
  refine c42 (G := insG x v [.int .i64 p, .int .i64 r, .int .i64 s, u]) (insGFit x v hv.fit ⟨⟨_, rfl⟩, ⟨_, rfl⟩, ⟨_, rfl⟩, hu, trivial⟩) ?_
  have hz := len_pos hv.len
  refine h_ite (fun hc => ?_) (fun hc => ?_)
  · simp only [holds, X.den, PE.den, SV.den, SV.denL, NK.val, NK.sv, NK.pub, gv_zero, gv_succ, vi_int, vb_bool, vlen_sl, vaddr_ptr, vb_ite, vi_ite, cmp_eql, cmp_neq, cmp_lss, cmp_leq, cmp_gtr, cmp_geq, List.map_nil, List.map_cons, List.cons_append, List.nil_append, List.flatten_nil, needs, Ret, true_and, and_true, decide_eq_true_eq, forall_const, intOp, insG, hz, Value.int.injEq, H.le_refl] at hc ⊢
    unfold mofM
    grind (splits := 60)
  · intro b0 hb0 b1 hb1
    simp only [holds, X.den, PE.den, SV.den, SV.denL, NK.val, NK.sv, NK.pub, gv_zero, gv_succ, vi_int, vb_bool, vlen_sl, vaddr_ptr, vb_ite, vi_ite, cmp_eql, cmp_neq, cmp_lss, cmp_leq, cmp_gtr, cmp_geq, List.map_nil, List.map_cons, List.cons_append, List.nil_append, List.flatten_nil, needs, Ret, true_and, and_true, decide_eq_true_eq, forall_const, intOp, insG] at hc
    have hB := blk_one (e := ⟨1, 0, 0, 0⟩) hv hb0 hb1
    refine h_call0 (s16 0 r _ _ hB) ?_
    rintro q h1 ⟨hl, rfl⟩
    have hl' := ((H.le_put hb0).trans (H.le_put hb1)).trans hl
    generalize hf : checkM 0 r [⟨[x], ⟨1, 0, 0, 0⟩⟩] = f
    refine ⟨[.int .i64 f.1, .int .i64 f.2.1, .int .i64 f.2.2], ⟨⟨_, rfl⟩, ⟨_, rfl⟩, ⟨_, rfl⟩, trivial⟩, rfl, h_call0 (s43 f.1) ?_⟩
    rintro _ _ ⟨rfl, rfl⟩
    refine ⟨[.int .i64 (mapE f.1)], ⟨⟨_, rfl⟩, trivial⟩, rfl, rfl, hl', ?_⟩
    have : mofM x r s = mapE f.1 := by unfold mofM; rw [hf]; grind
    rw [this]; rfl
def mcheckM (p r s : Int) (bs : List Blk) : Int × Int × Int :=
  if p < 0 ∨ 4 < p ∨ r < 3 ∨ 8 < r ∨ s < p ∨ 64 < s ∨ bs.length < 1 ∨ 16 < bs.length then (2, -1, -1)
  else blkF (fun x => mofM x r s) (fun e => mapE (endM e r bs.length 21)) 400 0 bs
theorem s34 {h : H} (p r s : Int) (v : Value) (bs : List Blk) (hv : BlksAt h v bs) :
    CallsA Try.prog 34 (fun _ => [.agg #[.int .i64 p, .int .i64 r, .int .i64 s, v]]) [] h (Ret fun q h' => h.le h' ∧ q = faultV (mcheckM p r s bs)) := by
  refine c34 (G := [.int .i64 p, .int .i64 r, .int .i64 s, v]) ⟨⟨_, rfl⟩, ⟨_, rfl⟩, ⟨_, rfl⟩, hv.fit, trivial⟩ ?_
  have hl := hv.len
  refine h_ite (fun hc => ⟨rfl, H.le_refl _, ?_⟩) (fun hc => ?_)
  · simp only [holds, X.den, PE.den, SV.den, SV.denL, NK.val, NK.sv, NK.pub, gv_zero, gv_succ, vi_int, vb_bool, vlen_sl, vaddr_ptr, vb_ite, vi_ite, cmp_eql, cmp_neq, cmp_lss, cmp_leq, cmp_gtr, cmp_geq, List.map_nil, List.map_cons, List.cons_append, List.nil_append, List.flatten_nil, needs, Ret, true_and, and_true, decide_eq_true_eq, forall_const, intOp, X.den] at hc ⊢
    rw [hl] at hc
    unfold mcheckM
    rw [if_pos (by grind (splits := 60))]; rfl
  · simp only [holds, X.den, PE.den, SV.den, SV.denL, NK.val, NK.sv, NK.pub, gv_zero, gv_succ, vi_int, vb_bool, vlen_sl, vaddr_ptr, vb_ite, vi_ite, cmp_eql, cmp_neq, cmp_lss, cmp_leq, cmp_gtr, cmp_geq, List.map_nil, List.map_cons, List.cons_append, List.nil_append, List.flatten_nil, needs, Ret, true_and, and_true, decide_eq_true_eq, forall_const, intOp, X.den] at hc
    rw [hl] at hc
    have hcm : mcheckM p r s bs = blkF (fun x => mofM x r s) (fun e => mapE (endM e r bs.length 21)) 400 0 bs := by unfold mcheckM; rw [if_neg (by grind (splits := 60))]
    have hb16 : bs.length ≤ 16 := by grind (splits := 60)
    clear hc
    refine h_range (n := bs.length) (fun i h' => h.le h' ∧ blkF (fun x => mofM x r s) (fun e => mapE (endM e r bs.length 21)) 400 0 bs = blkF (fun x => mofM x r s) (fun e => mapE (endM e r bs.length 21)) 400 i (bs.drop i)) hl (by omega) rfl (by omega)
      ⟨H.le_refl _, rfl⟩ ?_ ?_
    · rintro i h1 J hi ⟨hl1, hI⟩ hJ
      have hy : bs[i]? = some bs[i] := List.getElem?_eq_getElem hi
      generalize bs[i] = y at hy
      have hst := blkF_step hy hI
      obtain ⟨cs, ⟨u, rfl, hu⟩, hr⟩ := (SlAt.le blkC_mono hl1 hv).get i y hy
      refine h_load (u :: endC y.en) ⟨hu.fit, endFit y.en⟩ (fun _ => hr) ?_
      have hul := hu.len
      refine h_ite (fun hc => ⟨rfl, hl1, ?_⟩) (fun hc => ?_)
      · replace hc : decide (((400 : Int)) < (vlen u : Nat)) = true := hc
        simp only [decide_eq_true_eq] at hc
        rw [hul] at hc
        rw [if_pos (by omega)] at hst
        rw [hcm, hst]; rfl
      · replace hc : decide (((400 : Int)) < (vlen u : Nat)) = false := hc
        simp only [decide_eq_false_iff_not] at hc
        rw [hul] at hc
        rw [if_neg (by omega)] at hst
        refine h_range (n := y.ins.length) (fun k h' => h1.le h' ∧ insF (fun x => mofM x r s) 0 y.ins = insF (fun x => mofM x r s) k (y.ins.drop k)) hul (by omega) rfl (by omega) ⟨H.le_refl _, rfl⟩ ?_ ?_
        · rintro k h2 J2 hk ⟨hl2, hI2⟩ hJ2
          have hz : y.ins[k]? = some y.ins[k] := List.getElem?_eq_getElem hk
          generalize y.ins[k] = z at hz
          have hst2 := insF_step hz hI2
          obtain ⟨cs2, ⟨w, rfl, hw⟩, hr2⟩ := (SlAt.le insC_mono hl2 hu).get k z hz
          refine h_load (insC z w) (insFit z w hw.fit) (fun _ => hr2) (h_call0 (s42 z w p r s v hw hv.fit) ?_)
          rintro q h3 ⟨hl3, rfl⟩
          refine ⟨[.int .i64 (mofM z r s)], ⟨⟨_, rfl⟩, trivial⟩, rfl, h_ite (fun hf => ⟨rfl, (hl1.trans hl2).trans hl3, ?_⟩) (fun hf => ?_)⟩
          · replace hf : cmpOp .neq (mofM z r s) 0 = true := hf
            rw [cmp_neq, decide_eq_true_eq] at hf
            rw [if_pos hf] at hst2
            rw [hst2] at hst
            rw [hcm, hst]; rfl
          · replace hf : cmpOp .neq (mofM z r s) 0 = false := hf
            rw [cmp_neq, decide_eq_false_iff_not] at hf
            rw [if_neg hf] at hst2
            exact hJ2 _ ⟨hl2.trans hl3, hst2⟩
        · rintro h2 J2 ⟨hl2, hI2⟩
          rw [List.drop_eq_nil_of_le (Nat.le_refl _)] at hI2
          have hI3 : insF (fun x => mofM x r s) 0 y.ins = none := hI2
          rw [hI3] at hst
          have hb : ((vlen v : Nat) : Int) = bs.length := by rw [hl]
          refine h_call0 (Q := fun q h' => h' = h2 ∧ q = .int .i64 (endM y.en r bs.length 21)) (by have := s26 (h := h2) y.en r (vlen v : Nat); rw [hb] at this; rw [← hb] at this ⊢; exact this) ?_
          rintro q _ ⟨rfl, rfl⟩
          refine ⟨[.int .i64 (endM y.en r bs.length 21)], ⟨⟨_, rfl⟩, trivial⟩, rfl, h_call0 (s43 (endM y.en r bs.length 21)) ?_⟩
          rintro q _ ⟨rfl, rfl⟩
          refine ⟨[.int .i64 (mapE (endM y.en r bs.length 21))], ⟨⟨_, rfl⟩, trivial⟩, rfl, h_ite (fun hf => ⟨rfl, hl1.trans hl2, ?_⟩) (fun hf => ?_)⟩
          · replace hf : cmpOp .neq (mapE (endM y.en r bs.length 21)) 0 = true := hf
            rw [cmp_neq, decide_eq_true_eq] at hf
            simp only [if_pos hf] at hst
            rw [hcm, hst, ← hul]; rfl
          · replace hf : cmpOp .neq (mapE (endM y.en r bs.length 21)) 0 = false := hf
            rw [cmp_neq, decide_eq_false_iff_not] at hf
            simp only [if_neg hf] at hst
            exact hJ _ ⟨hl1.trans hl2, hst⟩
    · rintro h1 J ⟨hl1, hI⟩
      refine ⟨rfl, hl1, ?_⟩
      rw [hcm, hI, List.drop_eq_nil_of_le (Nat.le_refl _)]; rfl
def fIns : Ins := ⟨8, 0, 0, 0, 0, 0, []⟩
theorem s32 {h : H} : CallsA Try.prog 32 (fun _ => []) [] h (Ret fun r h' => h.le h' ∧ r = .bool true) := by
  refine c32 (G := []) trivial ?_
  intro b0 hb0 b1 hb1
  have hl0 := H.le_put (o := .cells (insC fIns (.slice none 0 0)).toArray 46 (0, 0)) hb0
  have hl1 := H.le_put (o := .cells (Value.slice (some ⟨b0, 0, none⟩) 1 1 :: endC ⟨3, 0, 0, 0⟩).toArray 41 (0, 0)) hb1
  have hB := blk_one (x := fIns) (e := ⟨3, 0, 0, 0⟩) (SlAt.nil : IntsAt h (.slice none 0 0) fIns.args) hb0 hb1
  refine h_call0 (s34 0 3 0 _ _ hB) ?_
  rintro r h1 ⟨hl, rfl⟩
  have e1 : mcheckM 0 3 0 [⟨[fIns], ⟨3, 0, 0, 0⟩⟩] = (24, 0, 0) := by decide
  rw [e1]
  refine ⟨[.int .i64 24, .int .i64 0, .int .i64 0], ⟨⟨_, rfl⟩, ⟨_, rfl⟩, ⟨_, rfl⟩, trivial⟩, rfl, h_ite (fun _ => ?_) (fun hc => by cases hc)⟩
  have hB1 := SlAt.le blkC_mono hl hB
  refine h_call0 (s34 0 3 1 _ _ hB1) ?_
  rintro r h2 ⟨hl2, rfl⟩
  have e2 : mcheckM 0 3 1 [⟨[fIns], ⟨3, 0, 0, 0⟩⟩] = (0, 0, 0) := by decide
  rw [e2]
  have hB2 := SlAt.le blkC_mono hl2 hB1
  obtain ⟨cs, ⟨u, rfl, hu⟩, hr⟩ := hB2.get 0 _ rfl
  obtain ⟨cs, ⟨w, rfl, hw⟩, hr2⟩ := hu.get 0 fIns rfl
  refine ⟨[.int .i64 0, .int .i64 0, .int .i64 0], ⟨⟨_, rfl⟩, ⟨_, rfl⟩, ⟨_, rfl⟩, trivial⟩, rfl, ⟨fun _ => ⟨rfl, rfl, trivial⟩, h_load [u] ⟨hu.fit, trivial⟩ (fun _ i v hi => hr i v ?_) ⟨fun _ => ⟨rfl, ?_, trivial⟩, h_load (insC fIns w) (insFit fIns w hw.fit) (fun _ => hr2) (h_ite (fun _ => ?_) (fun hc => by cases hc))⟩⟩⟩
  · obtain ⟨rfl, rfl⟩ := get_one hi; rfl
  · have := hu.len
    show decide ((0 : Int) < (vlen u : Nat)) = true
    rw [this]; rfl
  · refine h_call0 (s36 fIns w hw.fit) ?_
    rintro r _ ⟨rfl, rfl⟩
    refine ⟨[.bool true], ⟨⟨_, rfl⟩, trivial⟩, rfl, rfl, ((hl0.trans hl1).trans hl).trans hl2, rfl⟩
end Go.Proofs.Ytibdneedfopcoaa
