/-
  What a function's check computes, and the fixed facts. Conditions: as each contract says.
-/
import Derived.Test.YtibdneedfopcoaaR1A
set_option linter.unusedVariables false
set_option linter.unusedSimpArgs false
namespace Go.Proofs.Ytibdneedfopcoaa
open Go

def insF (f : Ins → Int) : Nat → List Ins → Option (Nat × Int)
  | _, [] => none
  | k, x :: l => if f x ≠ 0 then some (k, f x) else insF f (k + 1) l
def blkF (f : Ins → Int) (g : Fin4 → Int) (most : Nat) : Nat → List Blk → Int × Int × Int
  | _, [] => (0, 0, 0)
  | b, x :: l => if most < x.ins.length then (9, b, -1) else match insF f 0 x.ins with
    | some (k, e) => (e, b, k)
    | none => if g x.en ≠ 0 then (g x.en, b, x.ins.length) else blkF f g most (b + 1) l
def checkM (p n : Int) (bs : List Blk) : Int × Int × Int :=
  if p < 0 ∨ 4 < p ∨ n < p ∨ 32 < n ∨ bs.length < 1 ∨ 16 < bs.length then (2, -1, -1)
  else blkF (fun x => ofM x n) (fun e => endM e n bs.length 21) 32 0 bs
def faultV (f : Int × Int × Int) : Value := .agg #[.int .i64 f.1, .int .i64 f.2.1, .int .i64 f.2.2]
theorem insF_step {f : Ins → Int} {l : List Ins} {k : Nat} {x : Ins} (hx : l[k]? = some x) (h : insF f 0 l = insF f k (l.drop k)) :
    insF f 0 l = if f x ≠ 0 then some (k, f x) else insF f (k + 1) (l.drop (k + 1)) := by
  rw [h]
  obtain ⟨hk, rfl⟩ := List.getElem?_eq_some_iff.1 hx
  rw [List.drop_eq_getElem_cons hk]; rfl
theorem blkF_step {f : Ins → Int} {g : Fin4 → Int} {most : Nat} {l : List Blk} {k : Nat} {x : Blk} (hx : l[k]? = some x) (h : blkF f g most 0 l = blkF f g most k (l.drop k)) :
    blkF f g most 0 l = (if most < x.ins.length then (9, (k : Int), (-1 : Int)) else match insF f 0 x.ins with
    | some (j, e) => (e, (k : Int), (j : Int))
    | none => if g x.en ≠ 0 then (g x.en, (k : Int), (x.ins.length : Int)) else blkF f g most (k + 1) (l.drop (k + 1))) := by
  rw [h]
  obtain ⟨hk, rfl⟩ := List.getElem?_eq_some_iff.1 hx
  rw [List.drop_eq_getElem_cons hk]; rfl
abbrev BlksAt := SlAt 5 BlkC
theorem gv_at {G D : List Value} {i j : Nat} (h : G.length + j = i) : gv (G ++ D) i = gv D j := by
  subst h
  simp [gv, List.getD_eq_getElem?_getD, List.getElem?_append_right]
theorem s16 {h : H} (p n : Int) (v : Value) (bs : List Blk) (hv : BlksAt h v bs) :
    CallsA Try.prog 16 (fun _ => [.agg #[.int .i64 p, .int .i64 n, v]]) [] h (Ret fun r h' => h.le h' ∧ r = faultV (checkM p n bs)) := by
  refine c16 (G := [.int .i64 p, .int .i64 n, v]) ⟨⟨_, rfl⟩, ⟨_, rfl⟩, hv.fit, trivial⟩ ?_
  have hl := hv.len
  refine h_ite (fun hc => ⟨rfl, H.le_refl _, ?_⟩) (fun hc => ?_)
  · simp only [holds, X.den, PE.den, SV.den, SV.denL, NK.val, NK.sv, NK.pub, gv_zero, gv_succ, vi_int, vb_bool, vlen_sl, vaddr_ptr, vb_ite, vi_ite, cmp_eql, cmp_neq, cmp_lss, cmp_leq, cmp_gtr, cmp_geq, List.map_nil, List.map_cons, List.cons_append, List.nil_append, List.flatten_nil, needs, Ret, true_and, and_true, decide_eq_true_eq, forall_const, intOp, X.den] at hc ⊢
    rw [hl] at hc
    unfold checkM
    rw [if_pos (by grind)]; rfl
  · simp only [holds, X.den, PE.den, SV.den, SV.denL, NK.val, NK.sv, NK.pub, gv_zero, gv_succ, vi_int, vb_bool, vlen_sl, vaddr_ptr, vb_ite, vi_ite, cmp_eql, cmp_neq, cmp_lss, cmp_leq, cmp_gtr, cmp_geq, List.map_nil, List.map_cons, List.cons_append, List.nil_append, List.flatten_nil, needs, Ret, true_and, and_true, decide_eq_true_eq, forall_const, intOp, X.den] at hc
    rw [hl] at hc
    have hcm : checkM p n bs = blkF (fun x => ofM x n) (fun e => endM e n bs.length 21) 32 0 bs := by unfold checkM; rw [if_neg (by grind)]
    have hb16 : bs.length ≤ 16 := by grind
    clear hc
    refine h_range (n := bs.length) (fun i h' => h.le h' ∧ blkF (fun x => ofM x n) (fun e => endM e n bs.length 21) 32 0 bs = blkF (fun x => ofM x n) (fun e => endM e n bs.length 21) 32 i (bs.drop i)) hl (by omega) rfl (by omega)
      ⟨H.le_refl _, rfl⟩ ?_ ?_
    · rintro i h1 J hi ⟨hl1, hI⟩ hJ
      have hy : bs[i]? = some bs[i] := List.getElem?_eq_getElem hi
      generalize bs[i] = y at hy
      have hst := blkF_step hy hI
      obtain ⟨cs, ⟨u, rfl, hu⟩, hr⟩ := (SlAt.le blkC_mono hl1 hv).get i y hy
      refine h_load (u :: endC y.en) ⟨hu.fit, endFit y.en⟩ (fun _ => hr) ?_
      have hul := hu.len
      refine h_ite (fun hc => ⟨rfl, hl1, ?_⟩) (fun hc => ?_)
      · replace hc : decide (((32 : Int)) < (vlen u : Nat)) = true := hc
        simp only [decide_eq_true_eq] at hc
        rw [hul] at hc
        rw [if_pos (by omega)] at hst
        rw [hcm, hst]; rfl
      · replace hc : decide (((32 : Int)) < (vlen u : Nat)) = false := hc
        simp only [decide_eq_false_iff_not] at hc
        rw [hul] at hc
        rw [if_neg (by omega)] at hst
        refine h_range (n := y.ins.length) (fun k h' => h1.le h' ∧ insF (fun x => ofM x n) 0 y.ins = insF (fun x => ofM x n) k (y.ins.drop k)) hul (by omega) rfl (by omega) ⟨H.le_refl _, rfl⟩ ?_ ?_
        · rintro k h2 J2 hk ⟨hl2, hI2⟩ hJ2
          have hz : y.ins[k]? = some y.ins[k] := List.getElem?_eq_getElem hk
          generalize y.ins[k] = z at hz
          have hst2 := insF_step hz hI2
          obtain ⟨cs2, ⟨w, rfl, hw⟩, hr2⟩ := (SlAt.le insC_mono hl2 hu).get k z hz
          refine h_load (insC z w) (insFit z w hw.fit) (fun _ => hr2) (h_call0 (s39 z w n hw) ?_)
          rintro r h3 ⟨hl3, rfl⟩
          refine ⟨[.int .i64 (ofM z n)], ⟨⟨_, rfl⟩, trivial⟩, rfl, h_ite (fun hf => ⟨rfl, (hl1.trans hl2).trans hl3, ?_⟩) (fun hf => ?_)⟩
          · replace hf : cmpOp .neq (ofM z n) 0 = true := hf
            rw [cmp_neq, decide_eq_true_eq] at hf
            rw [if_pos hf] at hst2
            rw [hst2] at hst
            rw [hcm, hst]; rfl
          · replace hf : cmpOp .neq (ofM z n) 0 = false := hf
            rw [cmp_neq, decide_eq_false_iff_not] at hf
            rw [if_neg hf] at hst2
            exact hJ2 _ ⟨hl2.trans hl3, hst2⟩
        · rintro h2 J2 ⟨hl2, hI2⟩
          rw [List.drop_eq_nil_of_le (Nat.le_refl _)] at hI2
          have hI3 : insF (fun x => ofM x n) 0 y.ins = none := hI2
          rw [hI3] at hst
          have hb : ((vlen v : Nat) : Int) = bs.length := by rw [hl]
          refine h_call0 (Q := fun r h' => h' = h2 ∧ r = .int .i64 (endM y.en n bs.length 21)) (by have := s26 (h := h2) y.en n (vlen v : Nat); rw [hb] at this; rw [← hb] at this ⊢; exact this) ?_
          rintro r _ ⟨rfl, rfl⟩
          refine ⟨[.int .i64 (endM y.en n bs.length 21)], ⟨⟨_, rfl⟩, trivial⟩, rfl, h_ite (fun hf => ⟨rfl, hl1.trans hl2, ?_⟩) (fun hf => ?_)⟩
          · replace hf : cmpOp .neq (endM y.en n bs.length 21) 0 = true := hf
            rw [cmp_neq, decide_eq_true_eq] at hf
            simp only [if_pos hf] at hst
            rw [hcm, hst, ← hul]; rfl
          · replace hf : cmpOp .neq (endM y.en n bs.length 21) 0 = false := hf
            rw [cmp_neq, decide_eq_false_iff_not] at hf
            simp only [if_neg hf] at hst
            exact hJ _ ⟨hl1.trans hl2, hst⟩
    · rintro h1 J ⟨hl1, hI⟩
      refine ⟨rfl, hl1, ?_⟩
      rw [hcm, hI, List.drop_eq_nil_of_le (Nat.le_refl _)]; rfl
def aIns : Ins := ⟨3, 1, 1, 0, 0, 0, []⟩
def aBlk : Blk := ⟨[aIns], ⟨3, 1, 0, 0⟩⟩
theorem get_one {α : Type} {a x : α} {i : Nat} (h : [a][i]? = some x) : i = 0 ∧ x = a := by
  cases i with
  | zero => simp at h; exact ⟨rfl, h.symm⟩
  | succ i => simp at h
theorem s13 {h : H} : CallsA Try.prog 13 (fun _ => []) [] h (Ret fun r h' => h.le h' ∧ r = .bool true) := by
  refine c13 (G := []) trivial ?_
  intro b0 hb0 b1 hb1
  have hl0 := H.le_put (o := .cells (insC aIns (.slice none 0 0)).toArray 46 (0, 0)) hb0
  have hl1 := H.le_put (o := .cells (Value.slice (some ⟨b0, 0, none⟩) 1 1 :: endC aBlk.en).toArray 41 (0, 0)) hb1
  have hI : SlAt 7 InsC (H.put h b0 (.cells (insC aIns (.slice none 0 0)).toArray 46 (0, 0))) (.slice (some ⟨b0, 0, none⟩) 1 1) [aIns] := by
    refine ⟨⟨_, _, _, rfl, (fun e => by cases e), Nat.le_refl _⟩, rfl, fun i x hi => ?_⟩
    obtain ⟨rfl, rfl⟩ := get_one hi
    exact ⟨_, ⟨_, rfl, SlAt.nil⟩, Reads.put (o := 0) fun i v hi => by simpa using hi⟩
  have hB : BlksAt (H.put (H.put h b0 (.cells (insC aIns (.slice none 0 0)).toArray 46 (0, 0))) b1 (.cells (Value.slice (some ⟨b0, 0, none⟩) 1 1 :: endC aBlk.en).toArray 41 (0, 0))) (.slice (some ⟨b1, 0, none⟩) 1 1) [aBlk] := by
    refine ⟨⟨_, _, _, rfl, (fun e => by cases e), Nat.le_refl _⟩, rfl, fun i x hi => ?_⟩
    obtain ⟨rfl, rfl⟩ := get_one hi
    exact ⟨_, ⟨_, rfl, SlAt.le insC_mono hl1 hI⟩, Reads.put (o := 0) fun i v hi => by simpa using hi⟩
  refine h_call0 (s16 0 2 _ [aBlk] hB) ?_
  rintro r h1 ⟨hl, rfl⟩
  have e1 : checkM 0 2 [aBlk] = (0, 0, 0) := by decide
  rw [e1]
  refine ⟨[.int .i64 0, .int .i64 0, .int .i64 0], ⟨⟨_, rfl⟩, ⟨_, rfl⟩, ⟨_, rfl⟩, trivial⟩, rfl, h_ite (fun _ => ?_) (fun hc => by cases hc)⟩
  have hB1 := SlAt.le blkC_mono hl hB
  refine h_call0 (s16 0 1 _ [aBlk] hB1) ?_
  rintro r h2 ⟨hl2, rfl⟩
  have e2 : checkM 0 1 [aBlk] = (21, 0, 0) := by decide
  rw [e2]
  have hB2 := SlAt.le blkC_mono hl2 hB1
  obtain ⟨cs, ⟨u, rfl, hu⟩, hr⟩ := hB2.get 0 aBlk rfl
  obtain ⟨cs, ⟨w, rfl, hw⟩, hr2⟩ := hu.get 0 aIns rfl
  refine ⟨[.int .i64 21, .int .i64 0, .int .i64 0], ⟨⟨_, rfl⟩, ⟨_, rfl⟩, ⟨_, rfl⟩, trivial⟩, rfl, ⟨fun _ => ⟨rfl, rfl, trivial⟩, h_load [u] ⟨hu.fit, trivial⟩ (fun _ i v hi => hr i v ?_) ⟨fun _ => ⟨rfl, ?_, trivial⟩, h_load (insC aIns w) (insFit aIns w hw.fit) (fun _ => hr2) (h_ite (fun _ => ?_) (fun hc => by cases hc))⟩⟩⟩
  · obtain ⟨rfl, rfl⟩ := get_one hi; rfl
  · have := hu.len
    show decide ((0 : Int) < (vlen u : Nat)) = true
    rw [this]; rfl
  · refine h_call0 (s19 aIns w hw (by decide)) ?_
    rintro r h3 ⟨hl3, hr3⟩
    have h4 := hr3.ints.len
    refine ⟨[r], ⟨hr3.ints.fit, trivial⟩, rfl, rfl, ((hl0.trans hl1).trans hl).trans (hl2.trans hl3), ?_⟩
    show Value.bool (cmpOp .eql ((vlen r : Nat) : Int) 2) = _
    rw [h4]; rfl
end Go.Proofs.Ytibdneedfopcoaa
