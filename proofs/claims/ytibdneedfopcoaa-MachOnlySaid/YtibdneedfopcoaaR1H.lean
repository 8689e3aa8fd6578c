/-
  What the document's answer for a function, and for code, computes: the same as the check. Conditions: as each contract says.
-/
import Derived.Test.YtibdneedfopcoaaR1G
set_option linter.unusedVariables false
set_option linter.unusedSimpArgs false
namespace Go.Proofs.Ytibdneedfopcoaa
open Go

theorem low_val {G : List Value} {s : Int} (e : gv G 2 = .int .i64 s) : vi ((X.ite (.cmp .geq (.var 2) (.lit 0)) (.lit 23) (.lit 21)).den G) = lowR s := by
  simp only [X.den, e, vi_ite, vb_bool, vi_int, cmp_geq, decide_eq_true_eq, lowR]
theorem s40 {h : H} (v : Value) (bs : List Blk) (n s : Int) (most : Nat) (hv : BlksAt h v bs) (hb : bs.length ≤ 1000) (hm : most ≤ 1000) :
    CallsA Try.prog 40 (fun _ => [v, .int .i64 n, .int .i64 s, .int .i64 (most : Int)]) [] h (Ret fun q h' => h.le h' ∧ q = faultV (blkF (fun x => insRM x n s) (fun e => endM e n bs.length (lowR s)) most 0 bs)) := by
  refine c40 (G := [v, .int .i64 n, .int .i64 s, .int .i64 (most : Int)]) ⟨hv.fit, ⟨_, rfl⟩, ⟨_, rfl⟩, ⟨_, rfl⟩, trivial⟩ ?_
  have hl := hv.len
  generalize hF : blkF (fun x => insRM x n s) (fun e => endM e n bs.length (lowR s)) most 0 bs = F
  refine h_range (n := bs.length) (fun i h' => h.le h' ∧ F = blkF (fun x => insRM x n s) (fun e => endM e n bs.length (lowR s)) most i (bs.drop i)) hl (by omega) rfl (by omega)
    ⟨H.le_refl _, hF.symm⟩ ?_ ?_
  · rintro i h1 J hi ⟨hl1, hI⟩ hJ
    have hy : bs[i]? = some bs[i] := List.getElem?_eq_getElem hi
    generalize bs[i] = y at hy
    have hst := blkF_step hy (hF.trans hI)
    rw [hF] at hst
    obtain ⟨cs, ⟨u, rfl, hu⟩, hr⟩ := (SlAt.le blkC_mono hl1 hv).get i y hy
    have hul := hu.len
    have f1 : Reads h1 (((vaddr v).add (i * 5)).add 0) [u] := hr.sub fun j z hz => by obtain ⟨rfl, rfl⟩ := get_one hz; rfl
    have f2 : Reads h1 (((vaddr v).add (i * 5)).add 1) (endC y.en) := hr.sub fun j z hz => by rw [Nat.add_comm]; simpa using hz
    have n0 : cmpOp .geq (i : Int) 0 = true := by rw [cmp_geq, decide_eq_true_eq]; omega
    have n1 : cmpOp .lss (i : Int) ((vlen v : Nat) : Int) = true := by rw [hl, cmp_lss, decide_eq_true_eq]; omega
    refine h_load [u] ⟨hu.fit, trivial⟩ (fun _ => f1) ?_
    refine h_ite (fun hc => ⟨rfl, hl1, ?_⟩) (fun hc => ?_)
    · replace hc : cmpOp .gtr ((vlen u : Nat) : Int) (most : Int) = true := hc
      rw [hul, cmp_gtr, decide_eq_true_eq] at hc
      rw [if_pos (by omega)] at hst
      rw [hst]; rfl
    replace hc : cmpOp .gtr ((vlen u : Nat) : Int) (most : Int) = false := hc
    rw [hul, cmp_gtr, decide_eq_false_iff_not] at hc
    rw [if_neg (by omega)] at hst
    refine h_loop (fun xs h' => ∃ k : Nat, xs = [.int .i64 (k : Int)] ∧ k ≤ y.ins.length ∧ h1.le h' ∧ insF (fun x => insRM x n s) 0 y.ins = insF (fun x => insRM x n s) k (y.ins.drop k)) (fun xs g => y.ins.length - (vi (gv xs 0)).toNat) ⟨0, rfl, Nat.zero_le _, H.le_refl _, rfl⟩ ?_
    rintro xs h2 J2 - ⟨k, rfl, hk, hl2, hI2⟩ hJ2
    have f1' := f1.le hl2
    have f2' := f2.le hl2
    refine ⟨fun _ => ⟨n0, n1, trivial⟩, h_load [u] ⟨hu.fit, trivial⟩ (fun _ => f1') (h_ite (fun hc3 => ?_) (fun hc3 => ?_))⟩
    · replace hc3 : cmpOp .lss (k : Int) ((vlen u : Nat) : Int) = true := hc3
      have hc3' := hc3
      rw [hul, cmp_lss, decide_eq_true_eq] at hc3
      have hlt : k < y.ins.length := by omega
      have hz : y.ins[k]? = some y.ins[k] := List.getElem?_eq_getElem hlt
      generalize y.ins[k] = z at hz
      have hst2 := insF_step hz hI2
      have m0 : cmpOp .geq (k : Int) 0 = true := by rw [cmp_geq, decide_eq_true_eq]; omega
      obtain ⟨cs2, ⟨w, rfl, hw⟩, hr2⟩ := (SlAt.le insC_mono hl2 hu).get k z hz
      refine ⟨fun _ => ⟨n0, n1, trivial⟩, h_load [u] ⟨hu.fit, trivial⟩ (fun _ => f1') ⟨fun _ => ⟨m0, hc3', trivial⟩, h_load (insC z w) (insFit z w hw.fit) (fun _ => hr2) (h_call0 (s45 z w n s hw) ?_)⟩⟩
      rintro q h3 ⟨hl3, rfl⟩
      refine ⟨[.int .i64 (insRM z n s)], ⟨⟨_, rfl⟩, trivial⟩, rfl, h_ite (fun hf => ⟨rfl, (hl1.trans hl2).trans hl3, ?_⟩) (fun hf => ?_)⟩
      · replace hf : cmpOp .neq (insRM z n s) 0 = true := hf
        rw [cmp_neq, decide_eq_true_eq] at hf
        rw [if_pos hf] at hst2
        rw [hst2] at hst
        rw [hst]; rfl
      · replace hf : cmpOp .neq (insRM z n s) 0 = false := hf
        rw [cmp_neq, decide_eq_false_iff_not] at hf
        rw [if_neg hf] at hst2
        refine again_of (xs := [.int .i64 ((k + 1 : Nat) : Int)]) (J := J2) ?_ rfl (hJ2 _ _ ⟨k + 1, rfl, by omega, hl2.trans hl3, hst2⟩ ?_)
        · exact congrArg (fun z => [Value.int .i64 z]) (int_add_one (n := y.ins.length) (by omega) (by omega))
        · simp only [gv_zero, vi_int]; omega
    · replace hc3 : cmpOp .lss (k : Int) ((vlen u : Nat) : Int) = false := hc3
      rw [hul, cmp_lss, decide_eq_false_iff_not] at hc3
      have hke : k = y.ins.length := by omega
      subst hke
      rw [List.drop_eq_nil_of_le (Nat.le_refl _)] at hI2
      have hI3 : insF (fun x => insRM x n s) 0 y.ins = none := hI2
      rw [hI3] at hst
      refine ⟨fun _ => ⟨n0, n1, trivial⟩, h_load (endC y.en) (endFit y.en) (fun _ => f2') ?_⟩
      simp only [List.cons_append, List.nil_append, endC]
      refine h_call0 (Q := fun r h' => h' = h2 ∧ r = .int .i64 (endM y.en n bs.length (lowR s))) ?_ ?_
      · have := s27 (h := h2) y.en n (vlen v : Nat) (lowR s)
        rw [hl] at this
        simp only [SV.denL, SV.den]
        rw [low_val (s := s) rfl]
        rw [← hl] at this ⊢
        exact this
      rintro r _ ⟨rfl, rfl⟩
      refine ⟨[.int .i64 (endM y.en n bs.length (lowR s))], ⟨⟨_, rfl⟩, trivial⟩, rfl, h_ite (fun hf => ?_) (fun hf => ?_)⟩
      · replace hf : cmpOp .neq (endM y.en n bs.length (lowR s)) 0 = true := hf
        rw [cmp_neq, decide_eq_true_eq] at hf
        simp only [if_pos hf] at hst
        refine ⟨fun _ => ⟨n0, n1, trivial⟩, h_load [u] ⟨hu.fit, trivial⟩ (fun _ => f1') ⟨rfl, hl1.trans hl2, ?_⟩⟩
        rw [hst, ← hul]; rfl
      · replace hf : cmpOp .neq (endM y.en n bs.length (lowR s)) 0 = false := hf
        rw [cmp_neq, decide_eq_false_iff_not] at hf
        simp only [if_neg hf] at hst
        exact hJ _ ⟨hl1.trans hl2, hst⟩
  · rintro h1 J ⟨hl1, hI⟩
    refine ⟨rfl, hl1, ?_⟩
    rw [hI, List.drop_eq_nil_of_le (Nat.le_refl _)]; rfl
theorem insF_congr {f g : Ins → Int} {l : List Ins} (hf : ∀ x ∈ l, f x = g x) : ∀ k, insF f k l = insF g k l := by
  induction l with
  | nil => intro k; rfl
  | cons x l ih => intro k; simp only [insF]; rw [hf x (by simp), ih (fun y hy => hf y (by simp [hy]))]
theorem blkF_congr {f g : Ins → Int} {a b : Fin4 → Int} {m : Nat} {l : List Blk} (hf : ∀ x, f x = g x) (hg : ∀ e, a e = b e) : ∀ k, blkF f a m k l = blkF g b m k l := by
  induction l with
  | nil => intro k; rfl
  | cons x l ih => intro k; simp only [blkF]; rw [insF_congr (fun y _ => hf y), hg, ih]
theorem s17 {h : H} (p n : Int) (v : Value) (bs : List Blk) (hv : BlksAt h v bs) :
    CallsA Try.prog 17 (fun _ => [.agg #[.int .i64 p, .int .i64 n, v]]) [] h (Ret fun r h' => h.le h' ∧ r = faultV (checkM p n bs)) := by
  refine c17 (G := [.int .i64 p, .int .i64 n, v]) ⟨⟨_, rfl⟩, ⟨_, rfl⟩, hv.fit, trivial⟩ ?_
  have hl := hv.len
  refine h_ite (fun hc => ⟨rfl, H.le_refl _, ?_⟩) (fun hc => ?_)
  · simp only [holds, X.den, PE.den, SV.den, SV.denL, NK.val, NK.sv, NK.pub, gv_zero, gv_succ, vi_int, vb_bool, vlen_sl, vaddr_ptr, vb_ite, vi_ite, cmp_eql, cmp_neq, cmp_lss, cmp_leq, cmp_gtr, cmp_geq, List.map_nil, List.map_cons, List.cons_append, List.nil_append, List.flatten_nil, needs, Ret, true_and, and_true, decide_eq_true_eq, forall_const, intOp, X.den] at hc ⊢
    rw [hl] at hc
    unfold checkM
    rw [if_pos (by grind (splits := 60))]; rfl
  · simp only [holds, X.den, PE.den, SV.den, SV.denL, NK.val, NK.sv, NK.pub, gv_zero, gv_succ, vi_int, vb_bool, vlen_sl, vaddr_ptr, vb_ite, vi_ite, cmp_eql, cmp_neq, cmp_lss, cmp_leq, cmp_gtr, cmp_geq, List.map_nil, List.map_cons, List.cons_append, List.nil_append, List.flatten_nil, needs, Ret, true_and, and_true, decide_eq_true_eq, forall_const, intOp, X.den] at hc
    rw [hl] at hc
    have hcm : checkM p n bs = blkF (fun x => insRM x n (-1)) (fun e => endM e n bs.length (lowR (-1))) 32 0 bs := by
      unfold checkM
      rw [if_neg (by grind (splits := 60))]
      exact blkF_congr (fun x => (insRM_ir x n).symm) (fun e => rfl) 0
    refine h_call0 (s40 v bs n (-1) 32 hv (by grind (splits := 60)) (by omega)) ?_
    rintro r h1 ⟨hl1, rfl⟩
    rw [hcm]
    generalize blkF _ _ _ _ _ = f
    exact ⟨[.int .i64 f.1, .int .i64 f.2.1, .int .i64 f.2.2], ⟨⟨_, rfl⟩, ⟨_, rfl⟩, ⟨_, rfl⟩, trivial⟩, rfl, rfl, hl1, rfl⟩
theorem mapE_end (e : Fin4) (n m : Int) : endM e n m 23 = mapE (endM e n m 21) := by
  unfold mapE endM; grind (splits := 60)
theorem s35 {h : H} (p r s : Int) (v : Value) (bs : List Blk) (hv : BlksAt h v bs) :
    CallsA Try.prog 35 (fun _ => [.agg #[.int .i64 p, .int .i64 r, .int .i64 s, v]]) [] h (Ret fun q h' => h.le h' ∧ q = faultV (mcheckM p r s bs)) := by
  refine c35 (G := [.int .i64 p, .int .i64 r, .int .i64 s, v]) ⟨⟨_, rfl⟩, ⟨_, rfl⟩, ⟨_, rfl⟩, hv.fit, trivial⟩ ?_
  have hl := hv.len
  refine h_ite (fun hc => ⟨rfl, H.le_refl _, ?_⟩) (fun hc => ?_)
  · simp only [holds, X.den, PE.den, SV.den, SV.denL, NK.val, NK.sv, NK.pub, gv_zero, gv_succ, vi_int, vb_bool, vlen_sl, vaddr_ptr, vb_ite, vi_ite, cmp_eql, cmp_neq, cmp_lss, cmp_leq, cmp_gtr, cmp_geq, List.map_nil, List.map_cons, List.cons_append, List.nil_append, List.flatten_nil, needs, Ret, true_and, and_true, decide_eq_true_eq, forall_const, intOp, X.den] at hc ⊢
    rw [hl] at hc
    unfold mcheckM
    rw [if_pos (by grind (splits := 60))]; rfl
  · simp only [holds, X.den, PE.den, SV.den, SV.denL, NK.val, NK.sv, NK.pub, gv_zero, gv_succ, vi_int, vb_bool, vlen_sl, vaddr_ptr, vb_ite, vi_ite, cmp_eql, cmp_neq, cmp_lss, cmp_leq, cmp_gtr, cmp_geq, List.map_nil, List.map_cons, List.cons_append, List.nil_append, List.flatten_nil, needs, Ret, true_and, and_true, decide_eq_true_eq, forall_const, intOp, X.den] at hc
    rw [hl] at hc
    have h1 : 0 ≤ s ∧ 3 ≤ r ∧ r ≤ 8 ∧ bs.length ≤ 1000 := by grind (splits := 60)
    have hcm : mcheckM p r s bs = blkF (fun x => insRM x r s) (fun e => endM e r bs.length (lowR s)) 400 0 bs := by
      unfold mcheckM
      rw [if_neg (by grind (splits := 60))]
      refine blkF_congr (fun x => (insRM_mach x r s h1.2.1 h1.2.2.1 h1.1).symm) (fun e => ?_) 0
      unfold lowR; rw [if_pos h1.1]; exact (mapE_end e _ _).symm
    refine h_call0 (s40 v bs r s 400 hv h1.2.2.2 (by omega)) ?_
    rintro q h1 ⟨hl1, rfl⟩
    rw [hcm]
    generalize blkF _ _ _ _ _ = f
    exact ⟨[.int .i64 f.1, .int .i64 f.2.1, .int .i64 f.2.2], ⟨⟨_, rfl⟩, ⟨_, rfl⟩, ⟨_, rfl⟩, trivial⟩, rfl, rfl, hl1, rfl⟩
end Go.Proofs.Ytibdneedfopcoaa
