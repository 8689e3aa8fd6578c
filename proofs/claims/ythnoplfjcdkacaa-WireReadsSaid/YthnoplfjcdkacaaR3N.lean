/-
  Certificates: what they are in memory, and as bytes: what the program and the document's answer write. Conditions: as each contract says.
-/
import Derived.Test.YthnoplfjcdkacaaR3D
import Derived.Test.YthnoplfjcdkacaaR3L
set_option linter.unusedVariables false
set_option linter.unusedSimpArgs false
namespace Go.Proofs.Ythnoplfjcdkacaa
open Go

abbrev Pr := Int × Int
def pairV (p : Pr) : List Value := [.int .i64 p.1, .int .i64 p.2]
def PairC (_ : H) (cs : List Value) (p : Pr) : Prop := cs = pairV p
def PairsC (h : H) (cs : List Value) (l : List Pr) : Prop := ∃ v, cs = [v] ∧ SlAt 2 PairC h v l
abbrev CertAt := SlAt 1 PairsC
theorem pairC_mono : Mono PairC := fun _ _ _ _ _ h => h
theorem pairsC_mono : Mono PairsC := fun _ _ _ _ hl ⟨v, h1, h2⟩ => ⟨v, h1, SlAt.le pairC_mono hl h2⟩
def PairF : RepF Pr := fun _ cs p fp => cs = pairV p ∧ fp = []
theorem pairF_good : GoodF PairF := ⟨fun _ h => h, fun ⟨_, h⟩ => by subst h; intro b hb; cases hb⟩
def PairsF : RepF (List Pr) := fun h cs l fp => ∃ v, cs = [v] ∧ SlF 106 2 PairF h v l fp
theorem pairsF_good : GoodF PairsF := SlF.good pairF_good
abbrev OwnCert (h : H) (v : Value) (c : List (List Pr)) (fp : List Nat) : Prop := SlF 53 1 PairsF h v c fp
theorem pairs_at {h : H} {v : Value} {l : List Pr} {fp : List Nat} (k : SlF 106 2 PairF h v l fp) : SlAt 2 PairC h v l := SlF.at (by omega) (fun h => h.1) k
theorem cert_at {h : H} {v : Value} {c : List (List Pr)} {fp : List Nat} (k : OwnCert h v c fp) : CertAt h v c := SlF.at (by omega) (fun ⟨v, e, k⟩ => ⟨v, e, pairs_at k⟩) k
theorem zeroP : ((zeroCells Try.prog 106).getD []).length = 2 := by kernel_rfl
theorem zeroPs : ((zeroCells Try.prog 53).getD []).length = 1 := by kernel_rfl

/-! ### What is written -/
def inW (p : Pr) : Bool := decide (0 ≤ p.1 ∧ p.1 < 4096 ∧ 0 ≤ p.2 ∧ p.2 < 4096)
def encPr (p : Pr) : List Int := lebI p.1 ++ lebI p.2
def encPs (l : List Pr) : List Int := lebI l.length ++ l.flatMap encPr
def encCt (c : List (List Pr)) : List Int := lebI c.length ++ c.flatMap encPs
def certM (c : List (List Pr)) : Int := if 16 < c.length then 9 else if c.all (fun l => l.all inW) then 0 else 2
theorem encPr_len (p : Pr) : (encPr p).length ≤ 20 := by
  have h1 := lebI_len p.1
  have h2 := lebI_len p.2
  unfold encPr; simp only [List.length_append]; omega
theorem encPs_len (l : List Pr) : (encPs l).length ≤ 10 + 20 * l.length := by
  have h1 := lebI_len l.length
  have h2 := flat_len (f := encPr) (l := l) (k := 20) fun p _ => encPr_len p
  unfold encPs; simp only [List.length_append]; omega
/-- Of no great size. -/
def Slim (c : List (List Pr)) : Prop := ∀ l ∈ c, l.length ≤ 100000
theorem encCt_len {c : List (List Pr)} (h : Slim c) : (c.flatMap encPs).length ≤ 2000010 * c.length := flat_len fun l hl => by have := encPs_len l; have := h l hl; omega
def CertR (h : H) (c : List (List Pr)) : Value → List (List Value) → H → Prop := Ret fun r h' => h.le h' ∧ ((certM c ≠ 0 ∧ r = .tuple #[.slice none 0 0, .int .i64 (certM c)]) ∨ (certM c = 0 ∧ ∃ x, r = .tuple #[x, .int .i64 0] ∧ OwnB h h' x (encCt c)))
theorem all_take {α : Type} {f : α → Bool} {l : List α} {i : Nat} {x : α} (hx : l[i]? = some x) (h : (l.take i).all f = true) (hf : f x = true) : (l.take (i + 1)).all f = true := by
  obtain ⟨h1, rfl⟩ := List.getElem?_eq_some_iff.1 hx
  rw [List.take_succ_eq_append_getElem h1, List.all_append, h]; simp [hf]
theorem certM_bad {c : List (List Pr)} (h16 : c.length ≤ 16) {i j : Nat} {l : List Pr} {p : Pr} (hl : c[i]? = some l) (hp : l[j]? = some p) (hb : inW p = false) : certM c = 2 := by
  unfold certM
  rw [if_neg (by omega), if_neg]
  intro h
  have h1 := List.all_eq_true.1 h l (List.mem_of_getElem? hl)
  have h2 := List.all_eq_true.1 h1 p (List.mem_of_getElem? hp)
  rw [hb] at h2; cases h2
theorem certM_ok {c : List (List Pr)} (h16 : c.length ≤ 16) (h : c.all (fun l => l.all inW) = true) : certM c = 0 := by unfold certM; rw [if_neg (by omega), if_pos h]
theorem certM_many {c : List (List Pr)} (h16 : 16 < c.length) : certM c = 9 := by unfold certM; rw [if_pos h16]
set_option maxRecDepth 4000 in
theorem s22 {h : H} {v : Value} {c : List (List Pr)} (hv : CertAt h v c) (hs : Slim c) : CallsA Try.prog 22 (fun _ => [v]) [] h (CertR h c) := by
  refine c22 (G := [v]) ⟨hv.fit, trivial⟩ ?_
  have hvl := hv.len
  have hlen := fun n => lebI_len n
  refine h_ite (fun hc => ?_) (fun hc => ?_)
  · replace hc : cmpOp .gtr ((vlen v : Nat) : Int) 16 = true := hc
    rw [hvl, cmp_gtr, decide_eq_true_eq] at hc
    exact ⟨rfl, H.le_refl _, .inl ⟨by rw [certM_many (by omega)]; omega, by rw [certM_many (by omega)]; rfl⟩⟩
  replace hc : cmpOp .gtr ((vlen v : Nat) : Int) 16 = false := hc
  rw [hvl, cmp_gtr, decide_eq_false_iff_not] at hc
  have h16 : c.length ≤ 16 := by omega
  have tot : ∀ i, i ≤ c.length → ((c.take i).flatMap encPs).length ≤ 32000160 := fun i hi => by
    have := encCt_len (c := c.take i) fun l hl => hs l (List.mem_of_mem_take hl)
    rw [List.length_take] at this; omega
  refine nums_step (ns := [(c.length : Int)]) rfl (fun D => rfl) rfl (by simp only [SV.denL, SV.den, X.den, gv_zero, gv_succ, hvl]; rfl) rfl (H.le_refl _) OwnB.nil (by simp) fun v0 v1 h1 hl1 o1 => ?_
  simp only [List.flatMap_cons, List.flatMap_nil, List.append_nil, List.cons_append, List.nil_append] at o1 ⊢
  have b0 := hlen (c.length : Int)
  refine h_loop (fun xs h' => ∃ (i : Nat) (w : Value), xs = [.int .i64 (i : Int), w] ∧ i ≤ c.length ∧ h.le h' ∧ OwnB h h' w (lebI c.length ++ (c.take i).flatMap encPs) ∧ (c.take i).all (fun l => l.all inW) = true)
    (fun xs h' => c.length - (vi (gv xs 0)).toNat) ⟨0, v1, rfl, Nat.zero_le _, hl1, by simpa using o1, rfl⟩ ?_
  rintro xs h2 J - ⟨i, w, rfl, hi, hl2, o2, ha⟩ hJ
  simp only [List.cons_append, List.nil_append]
  refine h_ite (fun hc => ?_) (fun hc => ?_)
  · have hc0 : cmpOp .lss (i : Int) ((vlen v : Nat) : Int) = true := hc
    replace hc := hc0
    rw [hvl, cmp_lss, decide_eq_true_eq] at hc
    have hil : i < c.length := by omega
    have hy : c[i]? = some c[i] := List.getElem?_eq_getElem hil
    have hym : c[i] ∈ c := List.getElem_mem _
    generalize c[i] = l at hy hym
    have hll := hs l hym
    obtain ⟨_, ⟨u, rfl, hu⟩, hr⟩ := (SlAt.le pairsC_mono hl2 hv).get i l hy
    have hul := hu.len
    have ti := tot i hi
    refine ⟨fun _ => ⟨nat_ge0 i, hc0, trivial⟩, h_load [u] ⟨hu.fit, trivial⟩ (fun _ => hr) ?_⟩
    simp only [List.cons_append, List.nil_append]
    refine nums_step (ns := [(l.length : Int)]) rfl (fun D => rfl) rfl (by simp only [SV.denL, SV.den, X.den, gv_zero, gv_succ, hul]; rfl) rfl hl2 o2 (by simp only [List.length_append]; omega) fun v2 v3 h3 hl3 o3 => ?_
    simp only [List.flatMap_cons, List.flatMap_nil, List.append_nil, List.cons_append, List.nil_append] at o3 ⊢
    have b1 := hlen (l.length : Int)
    refine h_loop (fun xs h' => ∃ (j : Nat) (w : Value), xs = [.int .i64 (j : Int), w] ∧ j ≤ l.length ∧ h2.le h' ∧ OwnB h h' w (lebI c.length ++ (c.take i).flatMap encPs ++ lebI l.length ++ (l.take j).flatMap encPr) ∧ (l.take j).all inW = true)
      (fun xs h' => l.length - (vi (gv xs 0)).toNat) ⟨0, v3, rfl, Nat.zero_le _, hl3, by simpa using o3, rfl⟩ ?_
    rintro xs h4 J2 - ⟨j, w2, rfl, hj, hl4, o4, ha2⟩ hJ2
    simp only [List.cons_append, List.nil_append]
    have tj : ((l.take j).flatMap encPr).length ≤ 2000000 := by
      have := flat_len (f := encPr) (l := l.take j) (k := 20) fun p _ => encPr_len p
      rw [List.length_take] at this; omega
    refine h_ite (fun hc2 => ?_) (fun hc2 => ?_)
    · have hc20 : cmpOp .lss (j : Int) ((vlen u : Nat) : Int) = true := hc2
      replace hc2 := hc20
      rw [hul, cmp_lss, decide_eq_true_eq] at hc2
      have hjl : j < l.length := by omega
      have hp : l[j]? = some l[j] := List.getElem?_eq_getElem hjl
      generalize l[j] = p at hp
      obtain ⟨_, rfl, hrp⟩ := (SlAt.le pairC_mono hl4 hu).get j p hp
      refine ⟨fun _ => ⟨nat_ge0 j, hc20, trivial⟩, h_load (pairV p) ⟨⟨_, rfl⟩, ⟨_, rfl⟩, trivial⟩ (fun _ => hrp) ?_⟩
      simp only [pairV, List.cons_append, List.nil_append]
      refine h_ite (fun hc3 => ?_) (fun hc3 => ?_)
      · have hb : inW p = false := by
          simp only [X.den, gv_zero, gv_succ, vi_int, vb_bool, vb_ite, cmp_lss, cmp_geq] at hc3
          simp at hc3
          unfold inW
          rw [decide_eq_false_iff_not]; omega
        have e := certM_bad h16 hy hp hb
        exact ⟨rfl, hl2.trans hl4, .inl ⟨by rw [e]; omega, by rw [e]; rfl⟩⟩
      · have hb : inW p = true := by
          simp only [X.den, gv_zero, gv_succ, vi_int, vb_bool, vb_ite, cmp_lss, cmp_geq] at hc3
          simp at hc3
          unfold inW
          rw [decide_eq_true_eq]; omega
        have q1 := hlen p.1
        have q2 := hlen p.2
        refine nums_step (ns := [p.1, p.2]) rfl (fun D => rfl) rfl rfl rfl (hl2.trans hl4) o4 (by simp only [List.length_append]; omega) fun v5 v6 h5 hl5 o5 => ?_
        simp only [List.flatMap_cons, List.flatMap_nil, List.append_nil, List.cons_append, List.nil_append] at o5 ⊢
        show J2 [.int .i64 (intOp .add .i64 (j : Int) 1), v6] h5
        rw [int_add_one hjl (by omega)]
        refine hJ2 _ _ ⟨j + 1, v6, rfl, by omega, hl4.trans hl5, ?_, all_take hp ha2 hb⟩ ?_
        · rw [take_flat hp, ← List.append_assoc]; exact o5
        · show l.length - ((((j + 1 : Nat) : Nat) : Int)).toNat < l.length - ((j : Int)).toNat
          omega
    · replace hc2 : cmpOp .lss (j : Int) ((vlen u : Nat) : Int) = false := hc2
      rw [hul, cmp_lss, decide_eq_false_iff_not] at hc2
      have : j = l.length := by omega
      subst this
      rw [List.take_length] at o4 ha2
      show J [.int .i64 (intOp .add .i64 (i : Int) 1), w2] h4
      rw [int_add_one hil (by omega)]
      refine hJ _ _ ⟨i + 1, w2, rfl, by omega, hl2.trans hl4, ?_, all_take hy ha ha2⟩ ?_
      · rw [take_flat hy, ← List.append_assoc]
        unfold encPs; rw [← List.append_assoc]; exact o4
      · show c.length - ((((i + 1 : Nat) : Nat) : Int)).toNat < c.length - ((i : Int)).toNat
        omega
  · replace hc : cmpOp .lss (i : Int) ((vlen v : Nat) : Int) = false := hc
    rw [hvl, cmp_lss, decide_eq_false_iff_not] at hc
    have : i = c.length := by omega
    subst this
    rw [List.take_length] at o2 ha
    exact ⟨rfl, hl2, .inr ⟨certM_ok h16 ha, w, rfl, o2⟩⟩
set_option maxRecDepth 4000 in
theorem s23 {h : H} {v : Value} {c : List (List Pr)} (hv : CertAt h v c) (hs : Slim c) : CallsA Try.prog 23 (fun _ => [v]) [] h (CertR h c) := by
  refine c23 (G := [v]) ⟨hv.fit, trivial⟩ ?_
  have hvl := hv.len
  have hlen := fun n => lebI_len n
  refine h_ite (fun hc => ?_) (fun hc => ?_)
  · replace hc : cmpOp .gtr ((vlen v : Nat) : Int) 16 = true := hc
    rw [hvl, cmp_gtr, decide_eq_true_eq] at hc
    exact ⟨rfl, H.le_refl _, .inl ⟨by rw [certM_many (by omega)]; omega, by rw [certM_many (by omega)]; rfl⟩⟩
  replace hc : cmpOp .gtr ((vlen v : Nat) : Int) 16 = false := hc
  rw [hvl, cmp_gtr, decide_eq_false_iff_not] at hc
  have h16 : c.length ≤ 16 := by omega
  have tot : ∀ i, i ≤ c.length → ((c.take i).flatMap encPs).length ≤ 32000160 := fun i hi => by
    have := encCt_len (c := c.take i) fun l hl => hs l (List.mem_of_mem_take hl)
    rw [List.length_take] at this; omega
  have b0 := hlen (c.length : Int)
  refine put_int (v := .slice none 0 0) (l := []) (n := (c.length : Int)) (fun _ => rfl) (by simp only [X.den, gv_zero, gv_succ, hvl]; rfl) (H.le_refl _) SlAt.nil (by simp) fun v1 h1 hl1 o1 => ?_
  simp only [List.cons_append, List.nil_append] at o1 ⊢
  refine h_loop (fun xs h' => ∃ (i : Nat) (w : Value), xs = [w, .int .i64 (i : Int)] ∧ i ≤ c.length ∧ h.le h' ∧ OwnB h h' w (lebI c.length ++ (c.take i).flatMap encPs) ∧ (c.take i).all (fun l => l.all inW) = true)
    (fun xs h' => c.length - (vi (gv xs 1)).toNat) ⟨0, v1, rfl, Nat.zero_le _, hl1, by simpa using o1, rfl⟩ ?_
  rintro xs h2 J - ⟨i, w, rfl, hi, hl2, o2, ha⟩ hJ
  simp only [List.cons_append, List.nil_append]
  refine h_ite (fun hc => ?_) (fun hc => ?_)
  · have hc0 : cmpOp .lss (i : Int) ((vlen v : Nat) : Int) = true := hc
    replace hc := hc0
    rw [hvl, cmp_lss, decide_eq_true_eq] at hc
    have hil : i < c.length := by omega
    have hy : c[i]? = some c[i] := List.getElem?_eq_getElem hil
    have hym : c[i] ∈ c := List.getElem_mem _
    generalize c[i] = l at hy hym
    have hll := hs l hym
    obtain ⟨_, ⟨u, rfl, hu⟩, hr⟩ := (SlAt.le pairsC_mono hl2 hv).get i l hy
    have hul := hu.len
    have ti := tot i hi
    refine ⟨fun _ => ⟨nat_ge0 i, hc0, trivial⟩, h_load [u] ⟨hu.fit, trivial⟩ (fun _ => hr) ?_⟩
    simp only [List.cons_append, List.nil_append]
    have b1 := hlen (l.length : Int)
    refine put_int (n := (l.length : Int)) (fun _ => rfl) (by simp only [X.den, gv_zero, gv_succ, hul]; rfl) hl2 o2.at (by simp only [List.length_append]; omega) fun v3 h3 hl3 o3 => ?_
    simp only [List.cons_append, List.nil_append] at o3 ⊢
    refine h_loop (fun xs h' => ∃ (j : Nat) (w : Value), xs = [w, .int .i64 (j : Int)] ∧ j ≤ l.length ∧ h2.le h' ∧ OwnB h h' w (lebI c.length ++ (c.take i).flatMap encPs ++ lebI l.length ++ (l.take j).flatMap encPr) ∧ (l.take j).all inW = true)
      (fun xs h' => l.length - (vi (gv xs 1)).toNat) ⟨0, v3, rfl, Nat.zero_le _, hl3, by simpa using o3, rfl⟩ ?_
    rintro xs h4 J2 - ⟨j, w2, rfl, hj, hl4, o4, ha2⟩ hJ2
    simp only [List.cons_append, List.nil_append]
    have tj : ((l.take j).flatMap encPr).length ≤ 2000000 := by
      have := flat_len (f := encPr) (l := l.take j) (k := 20) fun p _ => encPr_len p
      rw [List.length_take] at this; omega
    refine ⟨fun _ => ⟨nat_ge0 i, hc0, trivial⟩, h_load [u] ⟨hu.fit, trivial⟩ (fun _ => hr.le hl4) ?_⟩
    simp only [List.cons_append, List.nil_append]
    refine h_ite (fun hc2 => ?_) (fun hc2 => ?_)
    · have hc20 : cmpOp .lss (j : Int) ((vlen u : Nat) : Int) = true := hc2
      replace hc2 := hc20
      rw [hul, cmp_lss, decide_eq_true_eq] at hc2
      have hjl : j < l.length := by omega
      have hp : l[j]? = some l[j] := List.getElem?_eq_getElem hjl
      generalize l[j] = p at hp
      obtain ⟨_, rfl, hrp⟩ := (SlAt.le pairC_mono hl4 hu).get j p hp
      refine ⟨fun _ => ⟨nat_ge0 i, hc0, trivial⟩, h_load [u] ⟨hu.fit, trivial⟩ (fun _ => hr.le hl4) ⟨fun _ => ⟨nat_ge0 j, hc20, trivial⟩, h_load (pairV p) ⟨⟨_, rfl⟩, ⟨_, rfl⟩, trivial⟩ (fun _ => hrp) ?_⟩⟩
      simp only [pairV, List.cons_append, List.nil_append]
      refine h_ite (fun hc3 => ?_) (fun hc3 => ?_)
      · have hb : inW p = false := by
          simp only [X.den, gv_zero, gv_succ, vi_int, vb_bool, vb_ite, cmp_lss, cmp_gtr] at hc3
          simp at hc3
          unfold inW
          rw [decide_eq_false_iff_not]; omega
        have e := certM_bad h16 hy hp hb
        exact ⟨rfl, hl2.trans hl4, .inl ⟨by rw [e]; omega, by rw [e]; rfl⟩⟩
      · have hb : inW p = true := by
          simp only [X.den, gv_zero, gv_succ, vi_int, vb_bool, vb_ite, cmp_lss, cmp_gtr] at hc3
          simp at hc3
          unfold inW
          rw [decide_eq_true_eq]; omega
        have q1 := hlen p.1
        have q2 := hlen p.2
        have hl24 := hl2.trans hl4
        refine put_int (n := p.1) (fun _ => rfl) rfl hl24 o4.at (by simp only [List.length_append]; omega) fun v5 h5 hl5 o5 => ?_
        simp only [List.cons_append, List.nil_append]
        refine put_int (n := p.2) (fun _ => rfl) rfl (hl24.trans hl5) o5.at (by simp only [List.length_append]; omega) fun v6 h6 hl6 o6 => ?_
        show J2 [v6, .int .i64 (intOp .add .i64 (j : Int) 1)] h6
        rw [int_add_one hjl (by omega)]
        refine hJ2 _ _ ⟨j + 1, v6, rfl, by omega, (hl4.trans hl5).trans hl6, ?_, all_take hp ha2 hb⟩ ?_
        · rw [take_flat hp, ← List.append_assoc]
          unfold encPr; rw [← List.append_assoc]; exact o6
        · show l.length - ((((j + 1 : Nat) : Nat) : Int)).toNat < l.length - ((j : Int)).toNat
          omega
    · replace hc2 : cmpOp .lss (j : Int) ((vlen u : Nat) : Int) = false := hc2
      rw [hul, cmp_lss, decide_eq_false_iff_not] at hc2
      have : j = l.length := by omega
      subst this
      rw [List.take_length] at o4 ha2
      show J [w2, .int .i64 (intOp .add .i64 (i : Int) 1)] h4
      rw [int_add_one hil (by omega)]
      refine hJ _ _ ⟨i + 1, w2, rfl, by omega, hl2.trans hl4, ?_, all_take hy ha ha2⟩ ?_
      · rw [take_flat hy, ← List.append_assoc]
        unfold encPs; rw [← List.append_assoc]; exact o4
      · show c.length - ((((i + 1 : Nat) : Nat) : Int)).toNat < c.length - ((i : Int)).toNat
        omega
  · replace hc : cmpOp .lss (i : Int) ((vlen v : Nat) : Int) = false := hc
    rw [hvl, cmp_lss, decide_eq_false_iff_not] at hc
    have : i = c.length := by omega
    subst this
    rw [List.take_length] at o2 ha
    exact ⟨rfl, hl2, .inr ⟨certM_ok h16 ha, w, rfl, o2⟩⟩
end Go.Proofs.Ythnoplfjcdkacaa
