/-
  A function, and code, as bytes: what the program writes, what the document's answer writes. Conditions: as each contract says.
-/
import Derived.Test.YthnoplfjcdkacaaR3B
import Derived.Test.YthnoplfjcdkacaaMc
set_option linter.unusedVariables false
set_option linter.unusedSimpArgs false
namespace Go.Proofs.Ythnoplfjcdkacaa
open Go

/-! ### What the checks tell -/
theorem insF_none3 {f : Ins → Int} : ∀ {l : List Ins} {k : Nat}, insF f k l = none → ∀ x ∈ l, f x = 0
  | [], _, _, x, hx => by cases hx
  | y :: l, k, h, x, hx => by
    unfold insF at h
    split at h
    · cases h
    · rename_i h0
      rcases List.mem_cons.1 hx with rfl | hx
      · exact Decidable.not_not.1 h0
      · exact insF_none3 h x hx
theorem insF_some3 {f : Ins → Int} : ∀ {l : List Ins} {k : Nat} {r : Nat × Int}, insF f k l = some r → r.2 ≠ 0
  | [], _, _, h => by cases h
  | y :: l, k, r, h => by
    unfold insF at h
    split at h
    · rename_i h0; cases h; exact h0
    · exact insF_some3 h
theorem blkF_zero3 {f : Ins → Int} {g : Fin4 → Int} {most : Nat} : ∀ {l : List Blk} {k : Nat}, (blkF f g most k l).1 = 0 → ∀ b ∈ l, b.ins.length ≤ most ∧ (∀ x ∈ b.ins, f x = 0) ∧ g b.en = 0
  | [], _, _, b, hb => by cases hb
  | y :: l, k, h, b, hb => by
    unfold blkF at h
    split at h
    · simp at h
    · rename_i h1
      split at h
      · rename_i k' e' he
        have := insF_some3 he
        exact absurd h this
      · rename_i he
        split at h
        · rename_i h2; exact absurd h h2
        · rename_i h2
          rcases List.mem_cons.1 hb with rfl | hb
          · exact ⟨by omega, insF_none3 he, Decidable.not_not.1 h2⟩
          · exact blkF_zero3 h b hb
/-- What is known of what the checks take. -/
def Good (bs : List Blk) : Prop := 1 ≤ bs.length ∧ bs.length ≤ 16 ∧ ∀ b ∈ bs, b.ins.length ≤ 400 ∧ (∀ x ∈ b.ins, (1 ≤ x.kind ∧ x.kind ≤ 8) ∧ x.args.length ≤ 3) ∧ 1 ≤ b.en.kind ∧ b.en.kind ≤ 3
theorem insRM_known {x : Ins} {n s : Int} (h : insRM x n s = 0) : (1 ≤ x.kind ∧ x.kind ≤ 8) ∧ x.args.length ≤ 3 := by
  unfold insRM at h
  by_cases c1 : ¬ (1 ≤ x.kind ∧ x.kind ≤ (if 0 ≤ s then 8 else 6)) ∨ ¬ plainR x ∨ (x.kind = 3 ∧ ¬ (1 ≤ x.op ∧ x.op ≤ 7))
  · rw [if_pos c1] at h; omega
  · rw [if_neg c1] at h
    by_cases c2 : 3 < x.args.length
    · rw [if_pos c2] at h; omega
    · have c3 : 1 ≤ x.kind ∧ x.kind ≤ (if 0 ≤ s then 8 else 6) := Decidable.not_not.1 fun g => c1 (.inl g)
      refine ⟨⟨c3.1, ?_⟩, by omega⟩
      have := c3.2
      split at this <;> omega
theorem endM_known {e : Fin4} {n m vr : Int} (h : endM e n m vr = 0) : 1 ≤ e.kind ∧ e.kind ≤ 3 := by
  unfold endM at h
  split at h
  · cases h
  · omega
theorem mapE_zero3 {e : Int} (h : mapE e = 0) : e = 0 := by unfold mapE at h; split at h <;> omega
theorem checkM_good {p n : Int} {bs : List Blk} (h : (checkM p n bs).1 = 0) : Good bs := by
  unfold checkM at h
  split at h
  · simp at h
  · rename_i h1
    refine ⟨by omega, by omega, fun b hb => ?_⟩
    obtain ⟨k1, k2, k3⟩ := blkF_zero3 h b hb
    exact ⟨by omega, fun x hx => insRM_known (by rw [insRM_ir x n]; exact k2 x hx), endM_known k3⟩
theorem mcheckM_good {p r s : Int} {bs : List Blk} (h : (mcheckM p r s bs).1 = 0) : Good bs := by
  unfold mcheckM at h
  split at h
  · simp at h
  · rename_i h1
    refine ⟨by omega, by omega, fun b hb => ?_⟩
    obtain ⟨k1, k2, k3⟩ := blkF_zero3 h b hb
    exact ⟨k1, fun x hx => insRM_known (by rw [insRM_mach x r s (by omega) (by omega) (by omega)]; exact k2 x hx), endM_known (mapE_zero3 k3)⟩
theorem Good.fine {bs : List Blk} (g : Good bs) (hn : NB bs) : Fine bs := ⟨g.2.1, fun b hb => ⟨(g.2.2 b hb).1, fun x hx => ⟨hn b hb x hx, ((g.2.2 b hb).2.1 x hx).2⟩⟩⟩

/-! ### The program's -/
def encF (p n : Int) (bs : List Blk) : List Int := lebI p ++ (lebI n ++ encBs bs)
def encC (p r s : Int) (bs : List Blk) : List Int := lebI p ++ (lebI r ++ (lebI s ++ encBs bs))
theorem s37k {h0 h : H} {v u : Value} {l : List Int} {bs : List Blk} (hle : h0.le h) (o : OwnB h0 h v l) (hu : BlksAt h u bs) (hf : Fine bs) (hl : l.length ≤ 1000) :
    CallsA Try.prog 37 (fun e => [(e 0).ptr 0, u]) [[v]] h (RetC fun r c h' => h.le h' ∧ r = .tuple #[] ∧ ∃ v', c = [v'] ∧ OwnB h0 h' v' (l ++ encBs bs)) := by
  refine c37k (G := [v, u]) ⟨o.at.fit, hu.fit, trivial⟩ ?_
  have hul := hu.len
  have hlen := fun n => lebI_len n
  obtain ⟨hf1, hf2⟩ := hf
  have bnd : ∀ i, i ≤ bs.length → ((bs.take i).flatMap encB).length ≤ 64800000 := fun i hi => by
    have := blks_enc_len (l := bs.take i) fun b hb => hf2 b (List.mem_of_mem_take hb)
    rw [List.length_take] at this; omega
  refine nums_step (ns := [(bs.length : Int)]) rfl (fun D => rfl) rfl (by simp only [SV.denL, SV.den, X.den, gv_zero, gv_succ, hul]; rfl) rfl hle o (by omega) fun v0 v1 h1 hl1 o1 => ?_
  simp only [List.flatMap_cons, List.flatMap_nil, List.append_nil, List.cons_append, List.nil_append] at o1 ⊢
  refine h_loop (fun xs h' => ∃ (i : Nat) (v' : Value), xs = [.int .i64 (i : Int), v'] ∧ i ≤ bs.length ∧ h.le h' ∧ OwnB h0 h' v' (l ++ lebI bs.length ++ (bs.take i).flatMap encB))
    (fun xs h' => bs.length - (vi (gv xs 0)).toNat) ⟨0, v1, rfl, Nat.zero_le _, hl1, by simpa using o1⟩ ?_
  rintro xs h2 J - ⟨i, v2, rfl, hi, hl2, o2⟩ hJ
  have hb0 := hlen (bs.length : Int)
  refine h_ite (fun hc => ⟨fun _ => ?_, ?_⟩) (fun hc => ?_)
  · replace hc : cmpOp .lss (i : Int) ((vlen u : Nat) : Int) = true := hc
    exact ⟨nat_ge0 i, hc, trivial⟩
  · replace hc : cmpOp .lss (i : Int) ((vlen u : Nat) : Int) = true := hc
    rw [hul, cmp_lss, decide_eq_true_eq] at hc
    have hil : i < bs.length := by omega
    have hb := bnd i hi
    have hy : bs[i]? = some bs[i] := List.getElem?_eq_getElem hil
    have hym : bs[i] ∈ bs := List.getElem_mem _
    generalize bs[i] = y at hy hym
    obtain ⟨cs, ⟨w, rfl, hw⟩, hr⟩ := (SlAt.le blkC_mono hl2 hu).get i y hy
    obtain ⟨hy1, hy2⟩ := hf2 y hym
    refine h_load (w :: endC y.en) ⟨hw.fit, endFit y.en⟩ (fun _ => hr) ?_
    simp only [endC, List.cons_append, List.nil_append]
    have hwl := hw.len
    refine nums_step (ns := [(y.ins.length : Int)]) rfl (fun D => rfl) rfl (by simp only [SV.denL, SV.den, X.den, gv_zero, gv_succ, hwl]; rfl) rfl (hle.trans hl2) o2 (by simp only [List.length_append]; omega) fun v3 v4 h3 hl3 o3 => ?_
    simp only [List.flatMap_cons, List.flatMap_nil, List.append_nil, List.cons_append, List.nil_append] at o3 ⊢
    refine h_loop (fun xs h' => ∃ (k : Nat) (v' : Value), xs = [.int .i64 (k : Int), v'] ∧ k ≤ y.ins.length ∧ h2.le h' ∧ OwnB h0 h' v' (l ++ lebI bs.length ++ (bs.take i).flatMap encB ++ lebI y.ins.length ++ (y.ins.take k).flatMap encI))
      (fun xs h' => y.ins.length - (vi (gv xs 0)).toNat) ⟨0, v4, rfl, Nat.zero_le _, hl3, by simpa using o3⟩ ?_
    rintro xs h4 J2 - ⟨k, v5, rfl, hk, hl4, o4⟩ hJ2
    have bi : ((y.ins.take k).flatMap encI).length ≤ 4040000 := by
      have := ins_len (l := y.ins.take k) fun x hx => hy2 x (List.mem_of_mem_take hx)
      rw [List.length_take] at this; omega
    have b1 := hlen (y.ins.length : Int)
    refine h_ite (fun hc2 => ⟨fun _ => ?_, ?_⟩) (fun hc2 => ?_)
    · replace hc2 : cmpOp .lss (k : Int) ((vlen w : Nat) : Int) = true := hc2
      exact ⟨nat_ge0 k, hc2, trivial⟩
    · replace hc2 : cmpOp .lss (k : Int) ((vlen w : Nat) : Int) = true := hc2
      rw [hwl, cmp_lss, decide_eq_true_eq] at hc2
      have hkl : k < y.ins.length := by omega
      have hx : y.ins[k]? = some y.ins[k] := List.getElem?_eq_getElem hkl
      have hxm : y.ins[k] ∈ y.ins := List.getElem_mem _
      generalize y.ins[k] = x at hx hxm
      have hw4 : SlAt 7 InsC h4 w y.ins := SlAt.le insC_mono hl4 hw
      obtain ⟨cs2, ⟨q, rfl, hq⟩, hr2⟩ := hw4.get k x hx
      obtain ⟨hx1, hx2⟩ := hy2 x hxm
      refine h_load (insC x q) (insFit x q hq.fit) (fun _ => hr2) ?_
      simp only [insC, List.cons_append, List.nil_append]
      refine h_call1 (Q := fun r c h' => h4.le h' ∧ r = .tuple #[] ∧ ∃ v', c = [v'] ∧ OwnB h0 h' v' (l ++ lebI bs.length ++ (bs.take i).flatMap encB ++ lebI y.ins.length ++ (y.ins.take k).flatMap encI ++ encI x)) ?_ ?_
      · exact s56k (x := x) (hle.trans (hl2.trans hl4)) o4 hq hx1 hx2 (by simp only [List.length_append]; omega)
      · rintro r c h5 ⟨hl5, rfl, v6, rfl, o5⟩
        refine ⟨⟨o5.at.fit, trivial⟩, [], trivial, rfl, hJ2 _ _ ⟨k + 1, v6, ?_, by omega, hl4.trans hl5, ?_⟩ ?_⟩
        · show [Value.int .i64 (intOp .add .i64 (k : Int) 1), v6] = _
          rw [int_add_one hkl (by omega)]
        · rw [take_flat hx, ← List.append_assoc]; exact o5
        · show y.ins.length - (intOp .add .i64 (k : Int) 1).toNat < y.ins.length - ((k : Int)).toNat
          rw [int_add_one hkl (by omega)]; omega
    · replace hc2 : cmpOp .lss (k : Int) ((vlen w : Nat) : Int) = false := hc2
      rw [hwl, cmp_lss, decide_eq_false_iff_not] at hc2
      have : k = y.ins.length := by omega
      subst this
      rw [List.take_length] at o4 bi
      have hl24 := hl2.trans hl4
      have hle4 := hle.trans hl24
      have nxt : ∀ {v' : Value} {h' : H} {l' : List Int}, h4.le h' → OwnB h0 h' v' l' → l' = l ++ lebI bs.length ++ (bs.take i).flatMap encB ++ encB y → J [.int .i64 (intOp .add .i64 (i : Int) 1), v'] h' := fun {v' h' l'} g1 g2 e => by
        subst e
        rw [int_add_one hil (by omega)]
        refine hJ _ _ ⟨i + 1, v', rfl, by omega, hl24.trans g1, ?_⟩ ?_
        · rw [take_flat hy, ← List.append_assoc]; exact g2
        · show bs.length - ((((i + 1 : Nat) : Nat) : Int)).toNat < bs.length - ((i : Int)).toNat
          omega
      have e0 := hlen y.en.kind
      refine nums_step (ns := [IntKind.i64.wrap y.en.kind]) rfl (fun D => rfl) rfl rfl rfl hle4 o4 (by simp only [List.length_append]; omega) fun v6 v7 h5 hl5 o5 => ?_
      simp only [List.flatMap_cons, List.flatMap_nil, List.append_nil, List.cons_append, List.nil_append, lebI_i64] at o5 ⊢
      have sz : (l ++ lebI bs.length ++ (bs.take i).flatMap encB ++ lebI y.ins.length ++ y.ins.flatMap encI ++ lebI y.en.kind).length + 30 ≤ 100000000000 := by simp only [List.length_append]; omega
      refine h_ite (fun hc3 => ?_) (fun hc3 => h_ite (fun hc4 => ?_) (fun hc4 => ?_))
      · replace hc3 : cmpOp .eql y.en.kind 1 = true := hc3
        rw [cmp_eql, decide_eq_true_eq] at hc3
        refine nums_step (ns := [y.en.to]) rfl (fun D => rfl) rfl rfl rfl (hle4.trans hl5) o5 (by omega) fun v8 v9 h6 hl6 o6 => ?_
        refine nxt (hl5.trans hl6) o6 ?_
        unfold encB encE; rw [if_pos hc3]; simp [List.append_assoc]
      · replace hc3 : cmpOp .eql y.en.kind 1 = false := hc3
        replace hc4 : cmpOp .eql y.en.kind 2 = true := hc4
        rw [cmp_eql, decide_eq_false_iff_not] at hc3
        rw [cmp_eql, decide_eq_true_eq] at hc4
        refine nums_step (ns := [y.en.a, y.en.to, y.en.el]) rfl (fun D => rfl) rfl rfl rfl (hle4.trans hl5) o5 (by omega) fun v8 v9 h6 hl6 o6 => ?_
        refine nxt (hl5.trans hl6) o6 ?_
        unfold encB encE; rw [if_neg hc3, if_pos hc4]; simp [List.append_assoc]
      · replace hc3 : cmpOp .eql y.en.kind 1 = false := hc3
        replace hc4 : cmpOp .eql y.en.kind 2 = false := hc4
        rw [cmp_eql, decide_eq_false_iff_not] at hc3 hc4
        refine nums_step (ns := [y.en.a]) rfl (fun D => rfl) rfl rfl rfl (hle4.trans hl5) o5 (by omega) fun v8 v9 h6 hl6 o6 => ?_
        refine nxt (hl5.trans hl6) o6 ?_
        unfold encB encE; rw [if_neg hc3, if_neg hc4]; simp [List.append_assoc]
  · replace hc : cmpOp .lss (i : Int) ((vlen u : Nat) : Int) = false := hc
    rw [hul, cmp_lss, decide_eq_false_iff_not] at hc
    have : i = bs.length := by omega
    subst this
    rw [List.take_length] at o2
    exact ⟨[v2], rfl, hl2, rfl, v2, rfl, by unfold encBs; rw [← List.append_assoc]; exact o2⟩
theorem s14 {h : H} {v : Value} {p n : Int} {bs : List Blk} (hv : BlksAt h v bs) (hb : NB bs) :
    CallsA Try.prog 14 (fun _ => [.agg #[.int .i64 p, .int .i64 n, v]]) [] h (Ret fun r h' => h.le h' ∧ (((checkM p n bs).1 ≠ 0 ∧ r = .tuple #[.slice none 0 0, .int .i64 30]) ∨
      ((checkM p n bs).1 = 0 ∧ ∃ v', r = .tuple #[v', .int .i64 0] ∧ OwnB h h' v' (encF p n bs)))) := by
  refine c14 (G := [.int .i64 p, .int .i64 n, v]) ⟨⟨_, rfl⟩, ⟨_, rfl⟩, hv.fit, trivial⟩ ?_
  refine h_call0 (s35 p n v bs hv) ?_
  rintro _ h1 ⟨hl1, rfl⟩
  refine ⟨faultG (checkM p n bs), faultG_fit _, rfl, ?_⟩
  simp only [faultG, List.cons_append, List.nil_append]
  refine h_ite (fun hc => ⟨rfl, hl1, .inl ⟨?_, rfl⟩⟩) (fun hc => ?_)
  · replace hc : cmpOp .neq (checkM p n bs).1 0 = true := hc
    rw [cmp_neq, decide_eq_true_eq] at hc; exact hc
  · replace hc : cmpOp .neq (checkM p n bs).1 0 = false := hc
    rw [cmp_neq, decide_eq_false_iff_not, Decidable.not_not] at hc
    have hlen := fun n => lebI_len n
    have b1 := hlen p
    have b2 := hlen n
    refine nums_step (ns := [p, n]) rfl (fun D => rfl) rfl rfl rfl hl1 OwnB.nil (by simp) fun v0 v1 h2 hl2 o2 => ?_
    simp only [List.flatMap_cons, List.flatMap_nil, List.append_nil, List.cons_append, List.nil_append] at o2 ⊢
    have hl12 := hl1.trans hl2
    refine h_call1 (Q := fun r c h' => h2.le h' ∧ r = .tuple #[] ∧ ∃ v', c = [v'] ∧ OwnB h h' v' (lebI p ++ lebI n ++ encBs bs)) ?_ ?_
    · exact s37k hl12 o2 (SlAt.le blkC_mono hl12 hv) ((checkM_good hc).fine hb) (by simp only [List.length_append]; omega)
    · rintro r c h3 ⟨hl3, rfl, v', rfl, o3⟩
      refine ⟨⟨o3.at.fit, trivial⟩, [], trivial, rfl, rfl, hl12.trans hl3, .inr ⟨hc, v', rfl, ?_⟩⟩
      unfold encF; rw [← List.append_assoc]; exact o3
theorem s19 {h : H} {v : Value} {p r s : Int} {bs : List Blk} (hv : BlksAt h v bs) (hb : NB bs) :
    CallsA Try.prog 19 (fun _ => [.agg #[.int .i64 p, .int .i64 r, .int .i64 s, v]]) [] h (Ret fun q h' => h.le h' ∧ (((mcheckM p r s bs).1 ≠ 0 ∧ q = .tuple #[.slice none 0 0, .int .i64 30]) ∨
      ((mcheckM p r s bs).1 = 0 ∧ ∃ v', q = .tuple #[v', .int .i64 0] ∧ OwnB h h' v' (encC p r s bs)))) := by
  refine c19 (G := [.int .i64 p, .int .i64 r, .int .i64 s, v]) ⟨⟨_, rfl⟩, ⟨_, rfl⟩, ⟨_, rfl⟩, hv.fit, trivial⟩ ?_
  refine h_call0 (s43 p r s v bs hv) ?_
  rintro _ h1 ⟨hl1, rfl⟩
  refine ⟨faultG (mcheckM p r s bs), faultG_fit _, rfl, ?_⟩
  simp only [faultG, List.cons_append, List.nil_append]
  refine h_ite (fun hc => ⟨rfl, hl1, .inl ⟨?_, rfl⟩⟩) (fun hc => ?_)
  · replace hc : cmpOp .neq (mcheckM p r s bs).1 0 = true := hc
    rw [cmp_neq, decide_eq_true_eq] at hc; exact hc
  · replace hc : cmpOp .neq (mcheckM p r s bs).1 0 = false := hc
    rw [cmp_neq, decide_eq_false_iff_not, Decidable.not_not] at hc
    have hlen := fun n => lebI_len n
    have b1 := hlen p
    have b2 := hlen r
    have b3 := hlen s
    refine nums_step (ns := [p, r, s]) rfl (fun D => rfl) rfl rfl rfl hl1 OwnB.nil (by simp) fun v0 v1 h2 hl2 o2 => ?_
    simp only [List.flatMap_cons, List.flatMap_nil, List.append_nil, List.cons_append, List.nil_append] at o2 ⊢
    have hl12 := hl1.trans hl2
    refine h_call1 (Q := fun r' c h' => h2.le h' ∧ r' = .tuple #[] ∧ ∃ v', c = [v'] ∧ OwnB h h' v' (lebI p ++ (lebI r ++ lebI s) ++ encBs bs)) ?_ ?_
    · exact s37k hl12 o2 (SlAt.le blkC_mono hl12 hv) ((mcheckM_good hc).fine hb) (by simp only [List.length_append]; omega)
    · rintro r' c h3 ⟨hl3, rfl, v', rfl, o3⟩
      refine ⟨⟨o3.at.fit, trivial⟩, [], trivial, rfl, rfl, hl12.trans hl3, .inr ⟨hc, v', rfl, ?_⟩⟩
      have : encC p r s bs = lebI p ++ (lebI r ++ lebI s) ++ encBs bs := by unfold encC; simp only [List.append_assoc]
      rw [this]; exact o3
end Go.Proofs.Ythnoplfjcdkacaa
