/-
  The document's reader: blocks, functions, code. Conditions: as each contract says.
-/
import Derived.Test.YthnoplfjcdkacaaR3W
set_option linter.unusedVariables false
set_option linter.unusedSimpArgs false
namespace Go.Proofs.Ythnoplfjcdkacaa
open Go

theorem endU_bad {kv : Int} {s : RS} (h : s.2 ≠ 0) : (endU kv s).2 = s := by
  unfold endU
  simp only
  have e : ∀ (c : Prop) [Decidable c], (if c then belowR 4096 s else (0, s)) = (0, s) := fun c _ => by split; exact belowR_bad h; rfl
  rw [e]
  simp only
  rw [e]
  simp only
  rw [e]
theorem badK_bad {lim : Int} {n : Nat} {s : RS} (h : s.2 ≠ 0) : badK lim (belowR n s) = s := by
  unfold badK
  rw [belowR_bad h]
  simp only
  rw [if_neg (by simp [h])]
theorem endR_ne {s : RS} (h : s.2 ≠ 0) : (endR s).2 = s := by rw [endR_U, badK_bad h]; exact endU_bad h
theorem endR_kind (s : RS) : (endR s).1.kind = (belowR 256 s).1 := by rw [endR_U]; rfl
theorem insR_st {s : RS} (hq : (belowR 256 s).2.2 ≠ 0 ∨ ¬ (1 ≤ (belowR 256 s).1 ∧ (belowR 256 s).1 ≤ 8)) : (insR s).2 = failR 20 (belowR 256 s).2 := by
  have hf := belowR_fst (n := 256) (s := s)
  generalize hk : belowR 256 s = k at hf hq
  unfold insR
  simp only [hk]
  have : ¬ (1 ≤ k.1 ∧ k.1 ≤ 8) := by
    rcases hq with q | q
    · have := hf q; omega
    · exact q
  rw [if_neg (by omega), if_neg (by omega), if_neg (by omega), if_neg (by omega), if_neg (by omega)]
theorem insLR_stop {s : RS} {k : Nat} (h : (insLR k s).2.2 ≠ 0) : ∀ j, insLR (k + j) s = insLR k s
  | 0 => rfl
  | j + 1 => by rw [← Nat.add_assoc, insLR_snoc, insLR_stop h j, if_pos h]
theorem rowF_nd {h : H} {e : TypeId} {sz : Nat} {v : Value} {cs : List Value} {fp : List Nat} (k : RowF h e sz v cs fp) : fp.Nodup := by
  rcases k with ⟨_, _, rfl⟩ | ⟨b, _, _, _, _, _, _, _, _, rfl⟩ <;> simp
section
variable {h : H}
set_option maxRecDepth 4000 in
theorem s52k {v : Value} {s : RS} (hv : BytesAt h v s.1) (hl : s.1.length ≤ 1000000000) {most : Nat} (hm : most ≤ 1000) :
    CallsA Try.prog 52 (fun e => [(e 0).ptr 0, .int .i64 (most : Int)]) [[v, .int .i64 s.2]] h (RetC fun r c h' => h.le h' ∧ RdC v s.1 c (readBs most s).2 ∧ ∃ l fp, OwnBlks h' r l fp ∧ Fresh h fp ∧ fp.Nodup ∧ ((readBs most s).2.2 = 0 → l = (readBs most s).1)) := by
  refine c52k (G := [v, .int .i64 s.2, .int .i64 (most : Int)]) ⟨hv.fit, ⟨_, rfl⟩, ⟨_, rfl⟩, trivial⟩ ?_
  rw [tB_eq]
  have bl := fun n s => belowR_len n s
  refine rd_step (s := s) (n := 17) (v := v) rfl rfl rfl (by omega) (by omega) hv hl fun v1 hv1 => ?_
  obtain ⟨n, hn⟩ : ∃ n, n = (belowR 17 s).1 := ⟨_, rfl⟩
  obtain ⟨s1, hs1⟩ : ∃ s1, s1 = (belowR 17 s).2 := ⟨_, rfl⟩
  have hr := belowR_range 17 s
  have hok := belowR_ok (n := 17) (s := s)
  have hl1 : s1.1.length ≤ 1000000000 := by rw [hs1]; have := bl 17 s; omega
  have eR : readBs most s = blksR most n.toNat s1 := by unfold readBs; rw [← hn, ← hs1]
  rw [← hn] at hr hok ⊢
  rw [← hs1] at hv1 hok ⊢
  rw [eR]
  obtain ⟨m, rfl⟩ : ∃ m : Nat, n = (m : Int) := ⟨n.toNat, by omega⟩
  rw [Int.toNat_natCast]
  simp only [List.cons_append, List.nil_append]
  have hm17 : m < 17 := by omega
  have hs0 : 0 < m → s1.2 = 0 := fun q => hok (by omega)
  refine h_loop (fun xs h' => ∃ (i : Nat) (out w : Value) (fp : List Nat) (l : List Blk), xs = [out, .int .i64 (i : Int), w, .int .i64 (blksR most i s1).2.2] ∧ i ≤ m ∧ (∀ g, BytesAt g v s.1 → BytesAt g w (blksR most i s1).2.1) ∧ OwnBlks h' out l fp ∧ Fresh h fp ∧ fp.Nodup ∧ h.le h' ∧ l.length ≤ i ∧ ((blksR most i s1).2.2 = 0 → l = (blksR most i s1).1))
    (fun xs h' => m - (vi (gv xs 1)).toNat) ⟨0, .slice none 0 0, v1, [], [], rfl, Nat.zero_le _, hv1, SlF.nil, (fun b hb => by cases hb), List.nodup_nil, H.le_refl _, Nat.le_refl _, fun _ => rfl⟩ ?_
  rintro xs h2 J - ⟨i, out, w, fp, l, rfl, hi, hw, ho, hf, hnd, hl2, hll, hle⟩ hJ
  simp only [List.cons_append, List.nil_append]
  have hcond : vb ((X.ite (.cmp .lss (.var 7) (.var 5)) (.cmp .eql (.var 9) (.lit 0)) (.tt false)).den [v, .int .i64 s.2, .int .i64 (most : Int), v1, .int .i64 s1.2, .int .i64 (m : Int), out, .int .i64 (i : Int), w, .int .i64 (blksR most i s1).2.2]) = decide (i < m ∧ (blksR most i s1).2.2 = 0) := by
    simp only [X.den, gv_succ, gv_zero, vi_int, vb_bool, vb_ite, cmp_eql, cmp_lss, decide_eq_true_eq]
    by_cases h1 : i < m
    · rw [if_pos (by omega)]; simp [h1]
    · rw [if_neg (by omega)]; simp [h1]
  refine h_ite (fun hc => ?_) (fun hc => ?_)
  · rw [hcond, decide_eq_true_eq] at hc
    obtain ⟨him, hci⟩ := hc
    have hs00 := hs0 (by omega)
    obtain ⟨si, hsi⟩ : ∃ si, si = (blksR most i s1).2 := ⟨_, rfl⟩
    have hbl := blksR_len most hs00 i
    rw [← hsi] at hw hci hbl ⊢
    have hle' := hle (by rw [← hsi]; exact hci)
    have hsnoc := blksR_snoc most i s1 hs00
    rw [← hsi] at hsnoc
    rw [if_neg (by simpa using hci)] at hsnoc
    have em : intOp .add .i64 (most : Int) 1 = ((most + 1 : Nat) : Int) := int_add_one (n := 2000) (by omega) (by omega)
    refine rd_step (s := si) (n := most + 1) (v := w) rfl rfl em (by omega) (by omega) (hw _ (hv.le hl2)) (by omega) fun v3 hv3 => ?_
    obtain ⟨c, hcd⟩ : ∃ c, c = (belowR (most + 1) si).1 := ⟨_, rfl⟩
    obtain ⟨s2, hs2⟩ : ∃ s2, s2 = (belowR (most + 1) si).2 := ⟨_, rfl⟩
    have hrc := belowR_range (most + 1) si
    have hl2' : s2.1.length ≤ s1.1.length := by rw [hs2]; have := bl (most + 1) si; omega
    rw [← hcd] at hrc ⊢
    rw [← hs2] at hv3 ⊢
    obtain ⟨cn, rfl⟩ : ∃ cn : Nat, c = (cn : Int) := ⟨c.toNat, by omega⟩
    simp only [List.cons_append, List.nil_append]
    have eB : blkR most si = (⟨(insLR cn s2).1, (endR (insLR cn s2).2).1⟩, (endR (insLR cn s2).2).2) := by
      unfold blkR; simp only [← hcd, ← hs2, Int.toNat_natCast]
    rw [eB] at hsnoc
    simp only at hsnoc
    -- where a block is done
    have fin : ∀ {R : Value → List (List Value) → H → Prop} {G' : List Value} {Lv' : Lv} {h' : H} {q w' : Value} {L : List Ins} {fq : List Nat} {se : RS}, gv G' 6 = out → gv G' 7 = .int .i64 (i : Int) → gv G' 14 = q → 15 ≤ G'.length → Lv'[0]? = some J → SlF 87 7 InsF h' q L fq → OwnBlks h' out l fp → Fresh h fq → (fp ++ fq).Nodup → h.le h' → (∀ g, BytesAt g v s.1 → BytesAt g w' se.1) →
        (insLR cn s2).2 = se → (se.2 = 0 → L = (insLR cn s2).1) → Leaf R G' Lv' h' (belowR 256 se).1 w' se (endR se) := by
      intro R G' Lv' h' q w' L fq se e6 e7 e14 h15 hLv hL ho' hfq hnq hlh hby ese hLe D kd b m' a t e w'' hm' hkd ha ht he hb hc hw''
      obtain ⟨k0, k1⟩ := k256 se
      have g6 : gv (G' ++ D) 6 = out := by rw [gv_of_lt (by omega)]; exact e6
      have g7 : gv (G' ++ D) 7 = .int .i64 (i : Int) := by rw [gv_of_lt (by omega)]; exact e7
      have g14 : gv (G' ++ D) 14 = q := by rw [gv_of_lt (by omega)]; exact e14
      refine ⟨q :: endC (endR se).1, 1, ⟨?_, rfl⟩, ?_⟩
      · simp only [SV.denL, SV.den, X.den, g14, hkd, vi_int, ha, ht, he, u8_id k0 k1, endC, endR_kind]
      have g6' : SV.den (G' ++ D) dE (.val 6) = out := g6
      rw [g6']
      refine app_slF blkF_good (x := ⟨L, (endR se).1⟩) (f := fq) (by omega) ho' rfl ⟨q, rfl, hL⟩ hnq zero41 (by have := ho'.len (by omega); omega) fun v' h6 fr q1 q2 q3 q4 => ?_
      have hfr : Fresh h fr := fun y hy => by
        rcases q4 y hy with e | e | e
        · exact hf y e
        · exact hfq y e
        · exact H.le_none hlh e
      refine again_of (J := J) (xs := [v', .int .i64 ((i + 1 : Nat) : Int), w'', .int .i64 (endR se).2.2]) ?_ hLv ?_
      · have hb' : gv (G' ++ D ++ [v']) b = w'' := by
          by_cases hbl : b < (G' ++ D).length
          · rw [gv_of_lt hbl]; exact hb
          · exfalso
            have : gv (G' ++ D) (b + 1) = undef := by unfold gv; rw [List.getD_eq_getElem?_getD, List.getElem?_eq_none (by omega)]; rfl
            rw [hc] at this; cases this
        have hc' : gv (G' ++ D ++ [v']) (b + 1) = .int .i64 (endR se).2.2 := by
          by_cases hbl : b + 1 < (G' ++ D).length
          · rw [gv_of_lt hbl]; exact hc
          · exfalso
            have : gv (G' ++ D) (b + 1) = undef := by unfold gv; rw [List.getD_eq_getElem?_getD, List.getElem?_eq_none (by omega)]; rfl
            rw [hc] at this; cases this
        have h7' : gv (G' ++ D ++ [v']) 7 = .int .i64 (i : Int) := by rw [gv_of_lt (by rw [List.length_append]; omega)]; exact g7
        have hm'' : gv (G' ++ D ++ [v']) m' = v' := by rw [← hm']; exact gv_last
        simp only [SV.denL, SV.den, X.den, hb', hc', h7', hm'', vi_int]
        rw [int_add_one (n := 100) (by omega) (by omega)]
      · have est : (blksR most (i + 1) s1).2 = (endR se).2 := by
          rw [hsnoc, ese]; split <;> rfl
        refine hJ _ _ ⟨i + 1, v', w'', fr, l ++ [⟨L, (endR se).1⟩], by rw [est], by omega, fun g hg => by rw [est]; exact hw'' g (hby g hg), q1, hfr, q2, q3.le hlh hf, by simp; omega, fun h0 => ?_⟩ ?_
        · rw [est] at h0
          have hse : se.2 = 0 := Decidable.byContradiction fun q => by rw [endR_ne q] at h0; exact q h0
          rw [hsnoc, ese, if_neg (by rw [h0]; simp), hle', hLe hse]
        · show m - ((((i + 1 : Nat) : Nat) : Int)).toNat < m - ((i : Int)).toNat
          omega
    refine h_loop (fun xs h' => ∃ (k : Nat) (q w' : Value) (fq : List Nat) (L : List Ins), xs = [.int .i64 (k : Int), q, w', .int .i64 (insLR k s2).2.2] ∧ k ≤ cn ∧ (∀ g, BytesAt g v s.1 → BytesAt g w' (insLR k s2).2.1) ∧ SlF 87 7 InsF h' q L fq ∧ OwnBlks h' out l fp ∧ Fresh h fq ∧ (fp ++ fq).Nodup ∧ h.le h' ∧ L.length ≤ k ∧ ((insLR k s2).2.2 = 0 → L = (insLR k s2).1))
      (fun xs h' => cn - (vi (gv xs 0)).toNat) ⟨0, .slice none 0 0, v3, [], [], rfl, Nat.zero_le _, fun g hg => hv3 g (hw g hg), SlF.nil, ho, (fun b hb => by cases hb), by simpa using hnd, hl2, Nat.le_refl _, fun _ => rfl⟩ ?_
    rintro xs h4 J2 - ⟨k, q, w4, fq, L, rfl, hk, hw4, hL, ho4, hfq, hnq, hl4, hLl, hLe⟩ hJ2
    simp only [List.cons_append, List.nil_append]
    have hil := insLR_len k s2
    have hcond2 : vb ((X.ite (.cmp .lss (.var 13) (.var 12)) (.cmp .eql (.var 16) (.lit 0)) (.tt false)).den [v, .int .i64 s.2, .int .i64 (most : Int), v1, .int .i64 s1.2, .int .i64 (m : Int), out, .int .i64 (i : Int), w, .int .i64 si.2, v3, .int .i64 s2.2, .int .i64 (cn : Int), .int .i64 (k : Int), q, w4, .int .i64 (insLR k s2).2.2]) = decide (k < cn ∧ (insLR k s2).2.2 = 0) := by
      simp only [X.den, gv_succ, gv_zero, vi_int, vb_bool, vb_ite, cmp_eql, cmp_lss, decide_eq_true_eq]
      by_cases h1 : k < cn
      · rw [if_pos (by omega)]; simp [h1]
      · rw [if_neg (by omega)]; simp [h1]
    have hnq2 := List.nodup_append.1 hnq
    refine h_ite (fun hc2 => ?_) (fun hc2 => ?_)
    · rw [hcond2, decide_eq_true_eq] at hc2
      obtain ⟨hkc, hck⟩ := hc2
      obtain ⟨sk, hsk⟩ : ∃ sk, sk = (insLR k s2).2 := ⟨_, rfl⟩
      have hsn := insLR_snoc k s2
      rw [if_neg (by simpa using hck)] at hsn
      rw [← hsk] at hw4 hck hsn hil ⊢
      have hLe' := hLe (by rw [← hsk]; exact hck)
      have hbk := bl 256 sk
      obtain ⟨k0, k1⟩ := k256 sk
      refine rdK_step (s := sk) (w := w4) (by omega) (by omega) rfl rfl (hw4 _ (hv.le hl4)) (by omega) fun v5 hv5 => ?_
      have hw5 : ∀ g, BytesAt g v s.1 → BytesAt g v5 (belowR 256 sk).2.1 := fun g hg => hv5 g (hw4 g hg)
      -- what is behind an instruction that is none
      have bad : ∀ {se : RS}, (insR sk).2 = se → se.2 ≠ 0 → (insLR cn s2).2 = se ∧ (se.2 = 0 → L = (insLR cn s2).1) := fun {se} e1 e2 => by
        have h1 : (insLR (k + 1) s2).2 = se := by rw [hsn]; exact e1
        have h2 := insLR_stop (s := s2) (k := k + 1) (by rw [h1]; exact e2) (cn - (k + 1))
        rw [show k + 1 + (cn - (k + 1)) = cn by omega] at h2
        rw [h2, h1]
        exact ⟨rfl, fun q => absurd q e2⟩
      refine h_ite (fun hc3 => ?_) (fun hc3 => ?_)
      · rw [badX_den (m := 17) (lim := 8) (k := belowR 256 sk) rfl k0 k1, decide_eq_true_eq] at hc3
        have hst : (insR sk).2 = failR 20 (belowR 256 sk).2 := insR_st (.inr hc3.2)
        refine flK_step (s := (belowR 256 sk).2) (w := v5) rfl rfl (hw5 _ (hv.le hl4)) fun v6 hv6 => ?_
        refine iteT ?_ ?_
        · show cmpOp .neq (failR 20 (belowR 256 sk).2).2 0 = true
          rw [cmp_neq, decide_eq_true_eq]; exact failR_n20 _
        obtain ⟨b1, b2⟩ := bad hst (failR_n20 _)
        exact end_holds (w := v6) (s := failR 20 (belowR 256 sk).2) rfl (by decide) rfl rfl (hv6 _ (hw5 _ (hv.le hl4))) (by rw [failR_len]; omega) (fin rfl rfl rfl (by simp) rfl hL ho4 hfq hnq hl4 (fun g hg => hv6 g (hw5 g hg)) b1 b2)
      · rw [badX_den (m := 17) (lim := 8) (k := belowR 256 sk) rfl k0 k1, decide_eq_false_iff_not] at hc3
        refine h_ite (fun hc4 => ?_) (fun hc4 => ?_)
        · replace hc4 : cmpOp .neq (belowR 256 sk).2.2 0 = true := hc4
          rw [cmp_neq, decide_eq_true_eq] at hc4
          have hst : (insR sk).2 = (belowR 256 sk).2 := by rw [insR_st (.inl hc4), failR_id hc4]
          obtain ⟨b1, b2⟩ := bad hst hc4
          exact end_holds (w := v5) (s := (belowR 256 sk).2) rfl (by decide) rfl rfl (hw5 _ (hv.le hl4)) (by omega) (fin rfl rfl rfl (by simp) rfl hL ho4 hfq hnq hl4 hw5 b1 b2)
        · replace hc4 : cmpOp .neq (belowR 256 sk).2.2 0 = false := hc4
          rw [cmp_neq, decide_eq_false_iff_not, Decidable.not_not] at hc4
          obtain ⟨kn, hkn⟩ : ∃ kn : Nat, (belowR 256 sk).1 = (kn : Int) := ⟨(belowR 256 sk).1.toNat, by omega⟩
          have hk18 : 1 ≤ kn ∧ kn ≤ 8 := by
            have : 1 ≤ (belowR 256 sk).1 ∧ (belowR 256 sk).1 ≤ ((8 : Nat) : Int) := Decidable.byContradiction fun q => hc3 ⟨hc4, q⟩
            omega
          obtain ⟨nm, hnm⟩ : ∃ nm, namesL[kn]? = some nm := ⟨_, List.getElem?_eq_getElem (show kn < 9 by omega)⟩
          have hF := insR_F hkn hk18.1 hnm
          refine fields_holds (kn := kn) (nm := nm) (w := v5) (s := (belowR 256 sk).2) rfl (by decide) (by decide) (by rw [hkn]; rfl) hk18.1 hnm rfl rfl (hw5 _ (hv.le hl4)) (by omega) ?_
          rw [← hF]
          intro qa fa h5 w6 hra hfa hl45 hby
          have hl5 := hl4.trans hl45
          have hL5 := hL.agree insF_good (le_agree hl45 (hL.live insF_good))
          have ho5 := ho4.agree blkF_good (le_agree hl45 (ho4.live blkF_good))
          have dis : ∀ y ∈ fq, y ∉ fa := fun y hy hyf => by
            have := hL.live insF_good y hy; rw [hfa y hyf] at this; cases this
          have dis2 : ∀ y ∈ fp, y ∉ fa := fun y hy hyf => by
            have := ho4.live blkF_good y hy; rw [hfa y hyf] at this; cases this
          refine app_slF insF_good (x := (insR sk).1) (f := fa) (by omega) hL5 rfl ⟨qa, rfl, hra⟩ (nodup_app hnq2.2.1 (rowF_nd hra) dis) zero46 (by omega) fun v' h6 fr g1 g2 g3 g4 => ?_
          have hfr : Fresh h fr := fun y hy => by
            rcases g4 y hy with e | e | e
            · exact hfq y e
            · exact H.le_none hl4 (hfa y e)
            · exact H.le_none hl5 e
          show J2 [.int .i64 (intOp .add .i64 (k : Int) 1), v', w6, .int .i64 (insR sk).2.2] h6
          rw [int_add_one (n := 1000000000) (by omega) (by omega)]
          refine hJ2 _ _ ⟨k + 1, v', w6, fr, L ++ [(insR sk).1], by rw [hsn], by omega, fun g hg => by rw [hsn]; exact hby g (hw5 g hg), g1, ?_, hfr, ?_, g3.le hl5 hfq, by simp; omega, fun _ => by rw [hsn, hLe']⟩ ?_
          · exact ho5.agree blkF_good (g3.agree (ho5.live blkF_good) (fun y hy hyq => hnq2.2.2 y hy y hyq rfl))
          · refine nodup_app hnd g2 fun y hy hyr => ?_
            rcases g4 y hyr with e | e | e
            · exact hnq2.2.2 y hy y e rfl
            · exact dis2 y hy e
            · have := ho5.live blkF_good y hy; rw [e] at this; cases this
          · show cn - ((((k + 1 : Nat) : Nat) : Int)).toNat < cn - ((k : Int)).toNat
            omega
    · rw [hcond2, decide_eq_false_iff_not] at hc2
      have eP : insLR cn s2 = insLR k s2 := by
        by_cases e : k = cn
        · rw [e]
        · have hbad : (insLR k s2).2.2 ≠ 0 := fun q => hc2 ⟨by omega, q⟩
          have := insLR_stop hbad (cn - k)
          rwa [show k + (cn - k) = cn by omega] at this
      exact end_holds (w := w4) (s := (insLR k s2).2) rfl (by decide) rfl rfl (hw4 _ (hv.le hl4)) (by omega) (fin rfl rfl rfl (by simp) rfl hL ho4 hfq hnq hl4 hw4 (by rw [eP]) (by rw [eP]; exact hLe))
  · rw [hcond, decide_eq_false_iff_not] at hc
    have eP : (blksR most m s1).2 = (blksR most i s1).2 ∧ ((blksR most i s1).2.2 = 0 → (blksR most m s1).1 = (blksR most i s1).1) := by
      by_cases e : i = m
      · rw [e]; exact ⟨rfl, fun _ => rfl⟩
      · have hbad : (blksR most i s1).2.2 ≠ 0 := fun q => hc ⟨by omega, q⟩
        rcases blksR_stop most (hs0 (by omega)) hbad (m - i) with q | q
        · rw [show i + (m - i) = m by omega] at q
          rw [q]; exact ⟨rfl, fun z => absurd z hbad⟩
        · omega
    refine ⟨_, rfl, hl2, ⟨w, ?_, fun g hg => by rw [eP.1]; exact hw g hg⟩, l, fp, ho, hf, hnd, fun h0 => ?_⟩
    · rw [eP.1]; rfl
    · rw [eP.1] at h0
      rw [eP.2 h0]; exact hle h0
/-- One number of a function, one of code: read, checked. -/
theorem s29 {v : Value} {l : List Int} (hv : BytesAt h v l) (hl : l.length ≤ 1000000000) :
    CallsA Try.prog 29 (fun _ => [v]) [] h (Ret fun r h' => h.le h' ∧ ∃ u, r = .tuple #[.agg #[.int .i64 (readF l).1.1, .int .i64 (readF l).1.2.1, u], .int .i64 (readF l).2] ∧ BlksAt h' u (readF l).1.2.2) := by
  refine c29 (G := [v]) ⟨hv.fit, trivial⟩ ?_
  have bl := fun n s => belowR_len n s
  have t0 : ((l, 0) : RS).1.length = l.length := rfl
  have t1 := bl 4096 (l, 0)
  have t2 := bl 4096 (belowR 4096 (l, 0)).2
  refine rd_step (s := (l, 0)) (n := 4096) (v := v) rfl rfl rfl (by omega) (by omega) hv hl fun v1 hv1 => ?_
  refine rd_step (s := (belowR 4096 (l, 0)).2) (n := 4096) (v := v1) rfl rfl rfl (by omega) (by omega) (hv1 _ hv) (by omega) fun v2 hv2 => ?_
  obtain ⟨p, hp⟩ : ∃ p, p = belowR 4096 (l, 0) := ⟨_, rfl⟩
  obtain ⟨n, hn⟩ : ∃ n, n = belowR 4096 p.2 := ⟨_, rfl⟩
  rw [← hp] at hv1 hv2 t1 t2 ⊢
  rw [← hn] at hv2 t2 ⊢
  simp only [List.cons_append, List.nil_append]
  have hw := hv2 _ (hv1 _ hv)
  refine h_call1 (s52k (s := n.2) hw (by omega) (most := 32) (by omega)) ?_
  rintro u _ h4 ⟨hl4, ⟨v3, rfl, hv3⟩, L, fp, hu, hf, hnd, hLe⟩
  refine ⟨⟨(hv3 _ hw).fit, ⟨_, rfl⟩, trivial⟩, [u], ⟨hu.at.fit, trivial⟩, rfl, ?_⟩
  simp only [List.cons_append, List.nil_append]
  obtain ⟨bs, hbs⟩ : ∃ bs, bs = readBs 32 n.2 := ⟨_, rfl⟩
  rw [← hbs] at hv3 hLe ⊢
  have eF : readF l = if endS bs.2 ≠ 0 then ((0, 0, []), endS bs.2) else if (checkM p.1 n.1 bs.1).1 ≠ 0 then ((0, 0, []), 30) else ((p.1, n.1, bs.1), 0) := by
    unfold readF; simp only [← hp, ← hn, ← hbs]
  refine h_call1 (s49k (s := bs.2) ((hv3 _ hw).le hl4)) ?_
  rintro _ _ h5 ⟨e5, rfl, c1, c2, rfl, hc1⟩
  have e5' := e5.symm
  subst e5'
  refine ⟨⟨hc1, ⟨_, rfl⟩, trivial⟩, [.int .i64 (endS bs.2)], ⟨⟨_, rfl⟩, trivial⟩, rfl, ?_⟩
  simp only [List.cons_append, List.nil_append]
  refine h_ite (fun hc => ?_) (fun hc => ?_)
  · replace hc : cmpOp .neq (endS bs.2) 0 = true := hc
    rw [cmp_neq, decide_eq_true_eq] at hc
    rw [if_pos hc] at eF
    rw [eF]
    exact ⟨rfl, hl4, .slice none 0 0, rfl, SlAt.nil⟩
  · replace hc : cmpOp .neq (endS bs.2) 0 = false := hc
    rw [cmp_neq, decide_eq_false_iff_not, Decidable.not_not] at hc
    rw [if_neg (by simpa using hc)] at eF
    have h0 : bs.2.2 = 0 := Decidable.byContradiction fun q => endS_ne q hc
    have hL := hLe h0
    subst hL
    refine h_call0 (s15 p.1 n.1 u bs.1 hu.at) ?_
    rintro _ h6 ⟨hl6, rfl⟩
    refine ⟨faultG (checkM p.1 n.1 bs.1), faultG_fit _, rfl, ?_⟩
    simp only [faultG, List.cons_append, List.nil_append]
    refine h_ite (fun hc2 => ?_) (fun hc2 => ?_)
    · replace hc2 : cmpOp .neq (checkM p.1 n.1 bs.1).1 0 = true := hc2
      rw [cmp_neq, decide_eq_true_eq] at hc2
      rw [if_pos hc2] at eF
      rw [eF]
      exact ⟨rfl, hl4.trans hl6, .slice none 0 0, rfl, SlAt.nil⟩
    · replace hc2 : cmpOp .neq (checkM p.1 n.1 bs.1).1 0 = false := hc2
      rw [cmp_neq, decide_eq_false_iff_not, Decidable.not_not] at hc2
      rw [if_neg (by simpa using hc2)] at eF
      rw [eF]
      exact ⟨rfl, hl4.trans hl6, u, rfl, SlAt.le blkC_mono hl6 hu.at⟩
theorem s31 {v : Value} {l : List Int} (hv : BytesAt h v l) (hl : l.length ≤ 1000000000) :
    CallsA Try.prog 31 (fun _ => [v]) [] h (Ret fun r h' => h.le h' ∧ ∃ u, r = .tuple #[.agg #[.int .i64 (readC l).1.1, .int .i64 (readC l).1.2.1, .int .i64 (readC l).1.2.2.1, u], .int .i64 (readC l).2] ∧ BlksAt h' u (readC l).1.2.2.2) := by
  refine c31 (G := [v]) ⟨hv.fit, trivial⟩ ?_
  have bl := fun n s => belowR_len n s
  have t0 : ((l, 0) : RS).1.length = l.length := rfl
  have t1 := bl 4096 (l, 0)
  have t2 := bl 4096 (belowR 4096 (l, 0)).2
  have t3 := bl 4096 (belowR 4096 (belowR 4096 (l, 0)).2).2
  refine rd_step (s := (l, 0)) (n := 4096) (v := v) rfl rfl rfl (by omega) (by omega) hv hl fun v1 hv1 => ?_
  refine rd_step (s := (belowR 4096 (l, 0)).2) (n := 4096) (v := v1) rfl rfl rfl (by omega) (by omega) (hv1 _ hv) (by omega) fun v2 hv2 => ?_
  refine rd_step (s := (belowR 4096 (belowR 4096 (l, 0)).2).2) (n := 4096) (v := v2) rfl rfl rfl (by omega) (by omega) (hv2 _ (hv1 _ hv)) (by omega) fun v2' hv2' => ?_
  obtain ⟨p, hp⟩ : ∃ p, p = belowR 4096 (l, 0) := ⟨_, rfl⟩
  obtain ⟨r, hr⟩ : ∃ r, r = belowR 4096 p.2 := ⟨_, rfl⟩
  obtain ⟨n, hn⟩ : ∃ n, n = belowR 4096 r.2 := ⟨_, rfl⟩
  rw [← hp] at hv1 hv2 hv2' t1 t2 t3 ⊢
  rw [← hr] at hv2 hv2' t2 t3 ⊢
  rw [← hn] at hv2' t3 ⊢
  simp only [List.cons_append, List.nil_append]
  have hw := hv2' _ (hv2 _ (hv1 _ hv))
  refine h_call1 (s52k (s := n.2) hw (by omega) (most := 400) (by omega)) ?_
  rintro u _ h4 ⟨hl4, ⟨v3, rfl, hv3⟩, L, fp, hu, hf, hnd, hLe⟩
  refine ⟨⟨(hv3 _ hw).fit, ⟨_, rfl⟩, trivial⟩, [u], ⟨hu.at.fit, trivial⟩, rfl, ?_⟩
  simp only [List.cons_append, List.nil_append]
  obtain ⟨bs, hbs⟩ : ∃ bs, bs = readBs 400 n.2 := ⟨_, rfl⟩
  rw [← hbs] at hv3 hLe ⊢
  have eF : readC l = if endS bs.2 ≠ 0 then ((0, 0, 0, []), endS bs.2) else if (mcheckM p.1 r.1 n.1 bs.1).1 ≠ 0 then ((0, 0, 0, []), 30) else ((p.1, r.1, n.1, bs.1), 0) := by
    unfold readC; simp only [← hp, ← hr, ← hn, ← hbs]
  refine h_call1 (s49k (s := bs.2) ((hv3 _ hw).le hl4)) ?_
  rintro _ _ h5 ⟨e5, rfl, c1, c2, rfl, hc1⟩
  have e5' := e5.symm
  subst e5'
  refine ⟨⟨hc1, ⟨_, rfl⟩, trivial⟩, [.int .i64 (endS bs.2)], ⟨⟨_, rfl⟩, trivial⟩, rfl, ?_⟩
  simp only [List.cons_append, List.nil_append]
  refine h_ite (fun hc => ?_) (fun hc => ?_)
  · replace hc : cmpOp .neq (endS bs.2) 0 = true := hc
    rw [cmp_neq, decide_eq_true_eq] at hc
    rw [if_pos hc] at eF
    rw [eF]
    exact ⟨rfl, hl4, .slice none 0 0, rfl, SlAt.nil⟩
  · replace hc : cmpOp .neq (endS bs.2) 0 = false := hc
    rw [cmp_neq, decide_eq_false_iff_not, Decidable.not_not] at hc
    rw [if_neg (by simpa using hc)] at eF
    have h0 : bs.2.2 = 0 := Decidable.byContradiction fun q => endS_ne q hc
    have hL := hLe h0
    subst hL
    refine h_call0 (s20 p.1 r.1 n.1 u bs.1 hu.at) ?_
    rintro _ h6 ⟨hl6, rfl⟩
    refine ⟨faultG (mcheckM p.1 r.1 n.1 bs.1), faultG_fit _, rfl, ?_⟩
    simp only [faultG, List.cons_append, List.nil_append]
    refine h_ite (fun hc2 => ?_) (fun hc2 => ?_)
    · replace hc2 : cmpOp .neq (mcheckM p.1 r.1 n.1 bs.1).1 0 = true := hc2
      rw [cmp_neq, decide_eq_true_eq] at hc2
      rw [if_pos hc2] at eF
      rw [eF]
      exact ⟨rfl, hl4.trans hl6, .slice none 0 0, rfl, SlAt.nil⟩
    · replace hc2 : cmpOp .neq (mcheckM p.1 r.1 n.1 bs.1).1 0 = false := hc2
      rw [cmp_neq, decide_eq_false_iff_not, Decidable.not_not] at hc2
      rw [if_neg (by simpa using hc2)] at eF
      rw [eF]
      exact ⟨rfl, hl4.trans hl6, u, rfl, SlAt.le blkC_mono hl6 hu.at⟩
end
end Go.Proofs.Ythnoplfjcdkacaa
