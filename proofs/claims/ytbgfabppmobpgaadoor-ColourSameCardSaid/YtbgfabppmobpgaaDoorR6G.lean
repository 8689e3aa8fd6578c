/-
  The search, all of it: the least cost there is. Conditions: as each contract says.
-/
import Derived.Test.YtbgfabppmobpgaaDoorR6F
import Derived.Test.YtbgfabppmobpgaaDoorR6E
set_option linter.unusedVariables false
set_option linter.unusedSimpArgs false
namespace Go.Proofs.YtbgfabppmobpgaaDoor
open Go

/-- What comes of it. -/
structure Res (E : EdgeL) (k : Int) (cost : Nat → Int) (N v : Nat) (now : Nat → Int) (sum : Int) (S : Int) (best : List Int) (S' : Int) (best' : List Int) : Prop where
  le : S' ≤ S
  ok : S' = S ∧ best' = best ∨ S' < S ∧ best'.length = N ∧ OkTo E k N (gt best') ∧ S' = costL cost (gt best') 0 N
/-- What the search is about. -/
structure Hnt (g : H) (E : EdgeL) (k : Int) (N : Nat) (nv cv nowv : Value) (L : List SP) (cost : List Int) : Prop where
  tab : Tab g
  Nl : L.length = N
  cl : cost.length = N
  N14 : N ≤ 14
  k1 : 1 ≤ k
  k8 : k ≤ 8
  c : ∀ u, u < N → 1 ≤ costF cost u ∧ costF cost u ≤ 1000
  adj : ∀ x y, nrL L x y = true ↔ Adj E x y
theorem freeB_true {E : EdgeL} {g : H} {k : Int} {N : Nat} {nv cv nowv : Value} {L : List SP} {cost now : List Int} (W : Hnt g E k N nv cv nowv L cost) {v : Nat} {c : Int} (hv : v < N) (h : freeB (nrL L v) now v c = true) : ∀ u, u < v → Adj E u v → gt now u ≠ c := by
  intro u hu ha e
  unfold freeB at h
  rw [Bool.not_eq_true', List.any_eq_false] at h
  exact h u (mem_allS.2 ⟨by have := W.N14; omega, (W.adj v u).2 ha.symm⟩) (by rw [decide_eq_true_eq]; exact ⟨hu, e⟩)
theorem freeB_false {E : EdgeL} {g : H} {k : Int} {N : Nat} {nv cv nowv : Value} {L : List SP} {cost now : List Int} (W : Hnt g E k N nv cv nowv L cost) {v : Nat} {c : Int} (h : freeB (nrL L v) now v c = false) : ∃ u, u < v ∧ Adj E u v ∧ gt now u = c := by
  unfold freeB at h
  rw [Bool.not_eq_false', List.any_eq_true] at h
  obtain ⟨u, h1, h2⟩ := h
  rw [decide_eq_true_eq] at h2
  exact ⟨u, h2.1, ((W.adj v u).1 (mem_allS.1 h1).2).symm, h2.2⟩
section
variable {g : H} {E : EdgeL} {k : Int} {N : Nat} {nv cv nowv : Value} {L : List SP} {cost : List Int} {fn : List Nat}
/-- What the walk leaves, from one vreg on. -/
def FromQ (g : H) (E : EdgeL) (k : Int) (N : Nat) (nv cv nowv : Value) (L : List SP) (cost : List Int) (fn : List Nat) (v : Nat) (now best : List Int) (sum S : Int) (cs : List Value) (h' : H) : Prop :=
  ∃ bestv' now' best' S' fb', cs = hCh nv cv k nowv bestv' S' ∧ HSt g h' nv cv nowv bestv' L cost now' best' fn fb' ∧ now'.length = N ∧ (∀ u, u < v → gt now' u = gt now u) ∧
    Res E k (costF cost) N v (gt now) sum S best S' best' ∧ Low E k (costF cost) N v (gt now) sum S' fun _ => True
theorem from_calls (W : Hnt g E k N nv cv nowv L cost) : ∀ (m : Nat) {v used : Nat} {h : H} {bestv : Value} {now best : List Int} {sum S : Int} {fb : List Nat}, v + m = N → HSt g h nv cv nowv bestv L cost now best fn fb → now.length = N → OkTo E k v (gt now) →
    (∀ u, u < v → gt now u < used) → used ≤ v → (used : Int) ≤ k → sum = costL (costF cost) (gt now) 0 v →
    CallsA Tryd.prog 27 (fun e => [(e 0).ptr 0, natV v, natV used, .int .i64 sum]) [hCh nv cv k nowv bestv S] h (RetC fun r cs h' => r = .tuple #[] ∧ FromQ g E k N nv cv nowv L cost fn v now best sum S cs h') := by
  intro m
  induction m with
  | zero =>
    intro v used h bestv now best sum S fb hm K hn hok hu hu1 hu2 hsum
    obtain rfl : v = N := by omega
    refine c27k (G := [nv, cv, .int .i64 k, nowv, bestv, .int .i64 S, natV v, natV used, .int .i64 sum]) ⟨K.near.fit, K.cost.fit, ⟨_, rfl⟩, K.now.row0.fit, K.best.row0.fit, ⟨_, rfl⟩, ⟨_, rfl⟩, ⟨_, rfl⟩, ⟨_, rfl⟩, trivial⟩ ?_
    have hwl := K.ints.len
    refine h_ite (fun hc => ?_) (fun hc => ?_)
    · replace hc : cmpOp .geq sum S = true := hc
      rw [cmp_geq, decide_eq_true_eq] at hc
      exact ⟨_, rfl, rfl, bestv, now, best, S, fb, rfl, K, hn, fun _ _ => rfl, ⟨Int.le_refl _, .inl ⟨rfl, rfl⟩⟩, low_stop (fun u hu => by have := W.c u hu; omega) (Nat.le_refl _) hc⟩
    · replace hc : cmpOp .geq sum S = false := hc
      rw [cmp_geq, decide_eq_false_iff_not] at hc
      refine h_ite (fun hc2 => ?_) (fun hc2 => ?_)
      · refine h_call0 (s42 K.ints (by rw [hn]; have := W.N14; omega)) ?_
        rintro bv h1 ⟨k1, f1, r1, fr1⟩
        refine ⟨[bv], ⟨r1.row0.fit, trivial⟩, rfl, _, rfl, rfl, bv, now, now, sum, f1, rfl, ?_, hn, fun _ _ => rfl, ⟨by omega, .inr ⟨by omega, hn, hok, hsum⟩⟩, fun f hf hp _ => ?_⟩
        · have l1 := k1.le_nil
          exact ⟨K.le.trans l1, K.near, K.cost, K.now.agree (le_agree' l1 K.now.live), r1, K.nf, fun b hb => H.le_none K.le (fr1 b hb), fun b hb hb' => by
            have := K.now.live b hb'; rw [fr1 b hb] at this; cases this⟩
        · rw [Nat.sub_self]; show sum ≤ sum + 0; omega
      · exfalso
        replace hc2 : cmpOp .eql (v : Int) ((vlen nowv : Nat) : Int) = false := hc2
        rw [hwl, hn, cmp_eql, decide_eq_false_iff_not] at hc2
        exact hc2 rfl
  | succ m ih =>
    intro v used h bestv now best sum S fb hm K hn hok hu hu1 hu2 hsum
    have hvN : v < N := by omega
    have hN := W.N14
    refine c27k (G := [nv, cv, .int .i64 k, nowv, bestv, .int .i64 S, natV v, natV used, .int .i64 sum]) ⟨K.near.fit, K.cost.fit, ⟨_, rfl⟩, K.now.row0.fit, K.best.row0.fit, ⟨_, rfl⟩, ⟨_, rfl⟩, ⟨_, rfl⟩, ⟨_, rfl⟩, trivial⟩ ?_
    have hwl := K.ints.len
    have hc0 : ∀ u, u < N → 0 ≤ costF cost u := fun u hu => by have := W.c u hu; omega
    have hs1 : 0 ≤ sum := by rw [hsum]; exact costL_nonneg _ _ fun u _ h => hc0 u (by omega)
    have hs2 : sum ≤ v * 1000 := by rw [hsum]; exact costL_le (by omega) _ _ fun u _ h => (W.c u (by omega)).2
    refine h_ite (fun hc => ?_) (fun hc => ?_)
    · replace hc : cmpOp .geq sum S = true := hc
      rw [cmp_geq, decide_eq_true_eq] at hc
      exact ⟨_, rfl, rfl, bestv, now, best, S, fb, rfl, K, hn, fun _ _ => rfl, ⟨Int.le_refl _, .inl ⟨rfl, rfl⟩⟩, low_stop hc0 (by omega) hc⟩
    replace hc : cmpOp .geq sum S = false := hc
    rw [cmp_geq, decide_eq_false_iff_not] at hc
    refine h_ite (fun hc2 => ?_) (fun hc2 => ?_)
    · exfalso
      replace hc2 : cmpOp .eql (v : Int) ((vlen nowv : Nat) : Int) = true := hc2
      rw [hwl, hn, cmp_eql, decide_eq_true_eq] at hc2
      omega
    refine h_loop (fun xs h' => ∃ (c : Nat) (bestv' : Value) (now' best' : List Int) (S' : Int) (fb' : List Nat), xs = natV c :: hCh nv cv k nowv bestv' S' ∧ c ≤ used + 1 ∧ (c : Int) ≤ k ∧ HSt g h' nv cv nowv bestv' L cost now' best' fn fb' ∧ now'.length = N ∧ (∀ u, u < v → gt now' u = gt now u) ∧
        Res E k (costF cost) N v (gt now) sum S best S' best' ∧ Low E k (costF cost) N v (gt now) sum S' fun x => 0 ≤ x ∧ x < c) (fun xs h' => used + 1 - (vi (gv xs 0)).toNat)
      ⟨0, bestv, now, best, S, fb, rfl, by omega, by have := W.k1; omega, K, hn, fun _ _ => rfl, ⟨Int.le_refl _, .inl ⟨rfl, rfl⟩⟩, fun f _ _ hq => by omega⟩ ?_
    clear K fb
    rintro xs h1 J - ⟨c, bestv1, now1, best1, S1, fb1, rfl, hcu, hck, K, hn1, ha1, R1, Lo⟩ hJ
    have hwl := K.ints.len
    have hok1 : OkTo E k v (gt now1) := hok.congr ha1
    have hadd : intOp .add .i64 (used : Int) 1 = ((used + 1 : Nat) : Int) := int_add_one (n := 1000) (by omega) (by omega)
    have hlim : vi (X.den ([nv, cv, .int .i64 k, nowv, bestv, .int .i64 S, natV v, natV used, .int .i64 sum] ++ natV c :: hCh nv cv k nowv bestv1 S1) (.ite (.cmp .lss (.var 2) (.op .add .i64 (.var 7) (.lit 1))) (.var 2) (.op .add .i64 (.var 7) (.lit 1)))) = if k < (used : Int) + 1 then k else (used : Int) + 1 := by
      show vi (if cmpOp .lss k (intOp .add .i64 (used : Int) 1) = true then Value.int .i64 k else .int .i64 (intOp .add .i64 (used : Int) 1)) = _
      rw [hadd, cmp_lss]
      by_cases q : k < (used : Int) + 1
      · rw [if_pos q, if_pos (by rw [decide_eq_true_eq]; omega)]; rfl
      · rw [if_neg q, if_neg (by rw [decide_eq_true_eq]; omega)]; rfl
    refine h_ite (fun hc3 => ?_) (fun hc3 => ?_)
    · replace hc3 : cmpOp .lss (c : Int) (vi (X.den ([nv, cv, .int .i64 k, nowv, bestv, .int .i64 S, natV v, natV used, .int .i64 sum] ++ natV c :: hCh nv cv k nowv bestv1 S1) (.ite (.cmp .lss (.var 2) (.op .add .i64 (.var 7) (.lit 1))) (.var 2) (.op .add .i64 (.var 7) (.lit 1))))) = true := hc3
      rw [hlim, cmp_lss, decide_eq_true_eq] at hc3
      have hcl : c ≤ used ∧ (c : Int) < k := by split at hc3 <;> omega
      clear hlim hc3
      have hcadd : intOp .add .i64 (c : Int) 1 = ((c + 1 : Nat) : Int) := int_add_one (n := 1000) (by omega) (by omega)
      refine h_call1 (Q := fun r cs h' => r = .bool (freeB (nrL L v) now1 v (c : Int)) ∧ cs = hCh nv cv k nowv bestv1 S1 ∧ h1.le h') (s43k W.tab K (by rw [W.Nl]; omega) (by omega) (by rw [W.Nl]; omega)) ?_
      rintro _ _ h2 ⟨rfl, rfl, l2⟩
      replace K := K.grow l2
      refine ⟨K.fits, [.bool _], ⟨⟨_, rfl⟩, trivial⟩, rfl, h_ite (fun hf => ?_) (fun hf => ?_)⟩
      · replace hf : freeB (nrL L v) now1 v (c : Int) = true := hf
        have hfree := freeB_true W hvN hf
        obtain ⟨w1, K2⟩ := K.set (v := v) (by omega) (c : Int)
        have hg2 : ∀ u, gt (now1.set v (c : Int)) u = if u = v then (c : Int) else gt now1 u := fun u => gt_set (by omega)
        refine ⟨fun _ => needIx (i := v) (v := nowv) rfl rfl (hwl.trans hn1) hvN, ?_⟩
        refine h_store ((vaddr nowv).add (v * 1)) [.int .i64 (c : Int)] rfl rfl w1 ?_
        have hvadd : intOp .add .i64 (v : Int) 1 = ((v + 1 : Nat) : Int) := int_add_one (n := 1000) (by omega) (by omega)
        obtain ⟨u2, hu2e⟩ : ∃ u2 : Nat, u2 = max used (c + 1) := ⟨_, rfl⟩
        have hok2 : OkTo E k (v + 1) (gt (now1.set v (c : Int))) := okTo_step (c := (c : Int)) (hok1.congr fun u hu => by rw [hg2, if_neg (by omega)]) (by rw [hg2, if_pos rfl]) (by omega) hcl.2 fun u hu ha _ => by
          rw [hg2, if_neg (by omega)]; exact hfree u hu ha
        have hcs := costL_snoc (costF cost) (gt (now1.set v (c : Int))) v 0
        rw [Nat.zero_add, hg2, if_pos rfl, if_neg (by omega : ¬ (c : Int) < 0), Int.add_zero] at hcs
        have hsum2 : sum = costL (costF cost) (gt (now1.set v (c : Int))) 0 (v + 1) := by
          rw [hcs, hsum]
          exact (costL_congr (cost := costF cost) v 0 (fun u _ hu => by rw [hg2, if_neg (by omega), ha1 u (by omega)]) (fun _ _ _ => rfl)).symm
        have hrec := ih (v := v + 1) (used := u2) (sum := sum) (S := S1) (by omega) K2 (by rw [List.length_set]; exact hn1) hok2 (fun u hu => by
            rw [hg2]
            by_cases e : u = v
            · rw [if_pos e]; omega
            · rw [if_neg e, ha1 u (by omega)]; have := ‹∀ u, u < v → gt now u < used› u (by omega); omega) (by omega) (by omega) hsum2
        refine h_call1 (Q := fun r cs h' => r = .tuple #[] ∧ FromQ g E k N nv cv nowv L cost fn (v + 1) (now1.set v (c : Int)) best1 sum S1 cs h') ?_ ?_
        · have e2 : vi (if cmpOp .gtr (intOp .add .i64 (c : Int) 1) (used : Int) = true then Value.int .i64 (intOp .add .i64 (c : Int) 1) else .int .i64 (used : Int)) = (u2 : Int) := by
            rw [hcadd, cmp_gtr, hu2e]
            by_cases q : (used : Int) < ((c + 1 : Nat) : Int)
            · rw [if_pos (by rw [decide_eq_true_eq]; exact q)]; show ((c + 1 : Nat) : Int) = _; omega
            · rw [if_neg (by rw [decide_eq_true_eq]; exact q)]; show (used : Int) = _; omega
          show CallsA _ _ (fun e => [(e 0).ptr 0, .int .i64 (intOp .add .i64 (v : Int) 1), .int .i64 (vi (if cmpOp .gtr (intOp .add .i64 (c : Int) 1) (used : Int) = true then Value.int .i64 (intOp .add .i64 (c : Int) 1) else .int .i64 (used : Int))), .int .i64 sum]) [hCh nv cv k nowv bestv1 S1] _ _
          rw [hvadd, e2]
          exact hrec
        · rintro _ cs h3 ⟨rfl, bv3, now3, best3, S3, fb3, rfl, K3, hn3, ha3, R3, Lo3⟩
          refine ⟨K3.fits, [], trivial, rfl, ?_⟩
          show J (.int .i64 (intOp .add .i64 (c : Int) 1) :: hCh nv cv k nowv bv3 S3) h3
          rw [hcadd]
          refine hJ _ _ ⟨c + 1, bv3, now3, best3, S3, fb3, rfl, by omega, by omega, K3, hn3, fun u hu => ?_, ⟨Int.le_trans R3.le R1.le, ?_⟩, ?_⟩ ?_
          · rw [ha3 u (by omega), hg2, if_neg (by omega)]; exact ha1 u hu
          · rcases R3.ok with ⟨q1, q2⟩ | q
            · rw [q1, q2]; exact R1.ok
            · right; exact ⟨Int.lt_of_lt_of_le q.1 R1.le, q.2⟩
          · have := low_step (now' := gt (now1.set v (c : Int))) (c := (c : Int)) hvN (fun u hu => by rw [hg2, if_neg (by omega)]; exact ha1 u hu) (by rw [hg2, if_pos rfl]) Lo R3.le (by rw [if_neg (by omega : ¬ (c : Int) < 0), Int.add_zero]; exact Lo3)
            exact fun f hf hp hq => this f hf hp (by omega)
          · simp only [gv_zero, vi_int]; omega
      · replace hf : freeB (nrL L v) now1 v (c : Int) = false := hf
        obtain ⟨u, q1, q2, q3⟩ := freeB_false W hf
        show J (.int .i64 (intOp .add .i64 (c : Int) 1) :: hCh nv cv k nowv bestv1 S1) h2
        rw [hcadd]
        refine hJ _ _ ⟨c + 1, bestv1, now1, best1, S1, fb1, rfl, by omega, by omega, K, hn1, ha1, R1, ?_⟩ (by simp only [gv_zero, vi_int]; omega)
        have := low_not (c := (c : Int)) hvN (by omega) Lo q1 q2 (by rw [← ha1 u q1]; exact q3)
        exact fun f hf hp hq => this f hf hp (by omega)
    · replace hc3 : cmpOp .lss (c : Int) (vi (X.den ([nv, cv, .int .i64 k, nowv, bestv, .int .i64 S, natV v, natV used, .int .i64 sum] ++ natV c :: hCh nv cv k nowv bestv1 S1) (.ite (.cmp .lss (.var 2) (.op .add .i64 (.var 7) (.lit 1))) (.var 2) (.op .add .i64 (.var 7) (.lit 1))))) = false := hc3
      rw [hlim, cmp_lss, decide_eq_false_iff_not] at hc3
      have Lo2 : Low E k (costF cost) N v (gt now) sum S1 fun x => 0 ≤ x := by
        by_cases q : k < (used : Int) + 1
        · rw [if_pos q] at hc3
          exact fun f hf hp hq => Lo f hf hp ⟨hq, by have := (hf.1 v hvN).2; omega⟩
        · rw [if_neg q] at hc3
          exact low_swap hvN (fun u hu' => by have := ‹∀ u, u < v → gt now u < used› u hu'; omega) (by omega) fun f hf hp hq => Lo f hf hp (by omega)
      clear hlim hc3
      obtain ⟨w1, K2⟩ := K.set (v := v) (by omega) (-1)
      have hg2 : ∀ u, gt (now1.set v (-1)) u = if u = v then -1 else gt now1 u := fun u => gt_set (by omega)
      have hcl := K2.cost.len
      have hcv := costF_some (l := cost) (v := v) (by rw [W.cl]; exact hvN)
      have hcb := W.c v hvN
      refine ⟨fun _ => needIx (i := v) (v := nowv) rfl rfl (hwl.trans hn1) hvN, ?_⟩
      refine h_store ((vaddr nowv).add (v * 1)) [.int .i64 (-1)] rfl rfl w1 ?_
      refine ⟨fun _ => needIx (i := v) (v := cv) rfl rfl (hcl.trans W.cl) hvN, h_load [.int .i64 (costF cost v)] ⟨⟨_, rfl⟩, trivial⟩ (fun _ => (K2.cost.read hcv).le K2.le) ?_⟩
      have hvadd : intOp .add .i64 (v : Int) 1 = ((v + 1 : Nat) : Int) := int_add_one (n := 1000) (by omega) (by omega)
      have hsadd : intOp .add .i64 sum (costF cost v) = sum + costF cost v := by simp only [intOp]; rw [wrap_i64 (by omega) (by omega)]
      have hok2 : OkTo E k (v + 1) (gt (now1.set v (-1))) := okTo_step (c := -1) (hok1.congr fun u hu => by rw [hg2, if_neg (by omega)]) (by rw [hg2, if_pos rfl]) (by omega) (by have := W.k1; omega) fun u hu ha h0 => by omega
      have hcs := costL_snoc (costF cost) (gt (now1.set v (-1))) v 0
      rw [Nat.zero_add, hg2, if_pos rfl, if_pos (by omega : (-1 : Int) < 0)] at hcs
      have hsum2 : sum + costF cost v = costL (costF cost) (gt (now1.set v (-1))) 0 (v + 1) := by
        rw [hcs, hsum]
        congr 1
        exact (costL_congr (cost := costF cost) v 0 (fun u _ hu => by rw [hg2, if_neg (by omega), ha1 u (by omega)]) (fun _ _ _ => rfl)).symm
      have hrec := ih (v := v + 1) (used := used) (sum := sum + costF cost v) (S := S1) (by omega) K2 (by rw [List.length_set]; exact hn1) hok2 (fun u hu => by
            rw [hg2]
            by_cases e : u = v
            · rw [if_pos e]; omega
            · rw [if_neg e, ha1 u (by omega)]; exact ‹∀ u, u < v → gt now u < used› u (by omega)) (by omega) (by omega) hsum2
      refine h_call1 (Q := fun r cs h' => r = .tuple #[] ∧ FromQ g E k N nv cv nowv L cost fn (v + 1) (now1.set v (-1)) best1 (sum + costF cost v) S1 cs h') ?_ ?_
      · show CallsA _ _ (fun e => [(e 0).ptr 0, .int .i64 (intOp .add .i64 (v : Int) 1), natV used, .int .i64 (intOp .add .i64 sum (costF cost v))]) [hCh nv cv k nowv bestv1 S1] _ _
        rw [hvadd, hsadd]
        exact hrec
      · rintro _ cs h3 ⟨rfl, bv3, now3, best3, S3, fb3, rfl, K3, hn3, ha3, R3, Lo3⟩
        refine ⟨K3.fits, [], trivial, rfl, _, rfl, rfl, bv3, now3, best3, S3, fb3, rfl, K3, hn3, fun u hu => ?_, ⟨Int.le_trans R3.le R1.le, ?_⟩, ?_⟩
        · rw [ha3 u (by omega), hg2, if_neg (by omega)]; exact ha1 u hu
        · rcases R3.ok with ⟨q1, q2⟩ | q
          · rw [q1, q2]; exact R1.ok
          · right; exact ⟨Int.lt_of_lt_of_le q.1 R1.le, q.2⟩
        · have := low_step (now' := gt (now1.set v (-1))) (c := -1) hvN (fun u hu => by rw [hg2, if_neg (by omega)]; exact ha1 u hu) (by rw [hg2, if_pos rfl]) Lo2 R3.le (by rw [if_pos (by omega : (-1 : Int) < 0)]; exact Lo3)
          exact fun f hf hp hq => this f hf hp (by have := (hf.1 v hvN).1; omega)
end
end Go.Proofs.YtbgfabppmobpgaaDoor
