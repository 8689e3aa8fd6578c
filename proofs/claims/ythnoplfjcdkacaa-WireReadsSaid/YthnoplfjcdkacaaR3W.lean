/-
  The document's reader: an instruction's fields, one by one. Conditions: as the lemma says.
-/
import Derived.Test.YthnoplfjcdkacaaR3V
set_option linter.unusedVariables false
set_option linter.unusedSimpArgs false
namespace Go.Proofs.Ythnoplfjcdkacaa
open Go

theorem AppSpec.mono {h : H} {e : TypeId} {sz by_ : Nat} {z : List Value} {v : Value} {N : List Value} {m : Nat} {K K' : Value → H → Prop} (H : AppSpec h e sz by_ z v N m K) (hk : ∀ v h', K v h' → K' v h') : AppSpec h e sz by_ z v N m K' := by
  unfold AppSpec at H ⊢
  split
  · obtain ⟨h1, h2⟩ := H
    refine ⟨fun hc => ⟨(h1 hc).1, hk _ _ (h1 hc).2⟩, fun hc => ?_⟩
    obtain ⟨k1, O, k2, k3, k4⟩ := h2 hc
    exact ⟨k1, O, k2, k3, fun b nc q1 q2 => hk _ _ (k4 b nc q1 q2)⟩
  · rename_i hv
    split at H
    · exact absurd rfl (hv _ _ _)
    · exact H
section
variable {R : Value → List (List Value) → H → Prop} {G : List Value} {J0 J1 : List Value → H → Prop} {h : H} {w : Value} {s : RS}
/-- The state between two fields. -/
def fldX (j : Nat) (p : Ins × RS) (w' q : Value) : List Value := [.int .i64 (j : Int), .int .u8 p.1.op, w', .int .i64 p.2.2, .int .i64 p.1.d, .int .i64 p.1.a, .int .i64 p.1.b, .int .i64 p.1.n, q]
theorem nx2_holds {L : Lv} {G2 : List Value} {h' : H} {J2 : List Value → H → Prop} {q j n : Nat} {p : Ins × RS} {w' u : Value} {op v c d a b nn l : SV} (hL : L[2]? = some J2) (hj : j < n) (hn : n ≤ 100) (h0 : gv G2 q = .int .i64 (j : Int)) (e1 : op.den G2 dE = .int .u8 p.1.op) (e2 : v.den G2 dE = w') (e3 : c.den G2 dE = .int .i64 p.2.2)
    (e4 : d.den G2 dE = .int .i64 p.1.d) (e5 : a.den G2 dE = .int .i64 p.1.a) (e6 : b.den G2 dE = .int .i64 p.1.b) (e7 : nn.den G2 dE = .int .i64 p.1.n) (e8 : l.den G2 dE = u) (HJ : J2 (fldX (j + 1) p w' u) h') : holds Try.prog R (nx2 q op v c d a b nn l) G2 L h' := by
  refine again_of ?_ hL HJ
  simp only [SV.denL, SV.den, X.den, h0, vi_int, e1, e2, e3, e4, e5, e6, e7, e8, fldX]
  rw [int_add_one (n := n) hj (by omega)]
set_option maxRecDepth 4000 in
theorem fields_holds {b m kn : Nat} {nm : ByteArray} (hm : G.length = m) (hbm : b + 1 < m) (h20 : 20 ≤ m) (hk : gv G 19 = .int .i64 (kn : Int)) (h1 : 1 ≤ kn) (hnm : namesL[kn]? = some nm) (hb : gv G b = w) (hc : gv G (b + 1) = .int .i64 s.2) (hw : BytesAt h w s.1) (hl : s.1.length ≤ 1000000000)
    (HK : ∀ (q : Value) (fa : List Nat) (h' : H) (w' : Value), RowF h' 3 1 q ((foldF nm nm.size (⟨kn, 0, 0, 0, 0, 0, []⟩, s)).1.args.map (.int .i64)) fa → Fresh h fa → h.le h' → (∀ g, BytesAt g w s.1 → BytesAt g w' (foldF nm nm.size (⟨kn, 0, 0, 0, 0, 0, []⟩, s)).2.1) →
      AppSpec h' 87 7 64 ((zeroCells Try.prog 87).getD []) (gv G 14) (insC (foldF nm nm.size (⟨kn, 0, 0, 0, 0, 0, []⟩, s)).1 q) 1 (fun v h'' => J1 [.int .i64 (intOp .add .i64 (vi (gv G 13)) 1), v, w', .int .i64 (foldF nm nm.size (⟨kn, 0, 0, 0, 0, 0, []⟩, s)).2.2] h'')) :
    holds Try.prog R (fieldsT b m (m + 1)) G [J0, J1] h := by
  have bl := fun n s => belowR_len n s
  have hk9 : kn < 9 := (List.getElem?_eq_some_iff.1 hnm).1
  have ku : IntKind.u8.wrap (kn : Int) = (kn : Int) := u8_id (by omega) (by omega)
  obtain ⟨p0, hp0⟩ : ∃ p0 : Ins × RS, p0 = (⟨kn, 0, 0, 0, 0, 0, []⟩, s) := ⟨_, rfl⟩
  rw [← hp0] at HK
  have hsz : nm.size ≤ 4 := by
    have : kn = 0 ∨ kn = 1 ∨ kn = 2 ∨ kn = 3 ∨ kn = 4 ∨ kn = 5 ∨ kn = 6 ∨ kn = 7 ∨ kn = 8 := by omega
    rcases this with rfl | rfl | rfl | rfl | rfl | rfl | rfl | rfl | rfl <;> (cases hnm; decide)
  refine h_call0 (Q := fun r h' => h.le h' ∧ r = .string nm) ?_ ?_
  · have := s59 (h := h) hnm
    simp only [SV.denL, SV.den, X.den, hk, vi_int, ku]
    exact this
  rintro _ h1' ⟨hl1, rfl⟩
  refine ⟨[.string nm], ⟨⟨_, rfl⟩, trivial⟩, rfl, ?_⟩
  have e0 : SV.denL (G ++ [.string nm]) dE [(.int .i64 (.lit 0)), (.int .u8 (.lit 0)), (.val b), iv (b + 1), (.int .i64 (.lit 0)), (.int .i64 (.lit 0)), (.int .i64 (.lit 0)), (.int .i64 (.lit 0)), (.cst (.slice none 0 0))] = fldX 0 p0 w (.slice none 0 0) := by
    have q1 : gv (G ++ [.string nm]) b = w := by rw [gv_of_lt (by omega)]; exact hb
    have q2 : gv (G ++ [.string nm]) (b + 1) = .int .i64 s.2 := by rw [gv_of_lt (by omega)]; exact hc
    simp only [SV.denL, SV.den, iv, X.den, q1, q2, vi_int, fldX, hp0]
    rfl
  refine h_loop (fun xs h' => ∃ (j : Nat) (w' q : Value) (fa : List Nat), xs = fldX j (foldF nm j p0) w' q ∧ j ≤ nm.size ∧ RowF h' 3 1 q ((foldF nm j p0).1.args.map (.int .i64)) fa ∧ Fresh h fa ∧ h.le h' ∧ (∀ g, BytesAt g w s.1 → BytesAt g w' (foldF nm j p0).2.1))
    (fun xs h' => nm.size - (vi (gv xs 0)).toNat) ⟨0, w, .slice none 0 0, [], by rw [e0]; simp [foldF], Nat.zero_le _, by simp [foldF, hp0]; exact .inl ⟨rfl, rfl, rfl⟩, (fun b hb => by cases hb), hl1, fun g hg => by simpa [foldF, hp0] using hg⟩ ?_
  rintro xs h2 J2 - ⟨j, w2, q, fa, rfl, hj, hr, hf, hl2, hby⟩ hJ2
  obtain ⟨p, hp⟩ : ∃ p, p = foldF nm j p0 := ⟨_, rfl⟩
  have hplen := foldF_len nm p0 j
  have hp0l : p0.2.1.length = s.1.length ∧ p0.1.args.length = 0 := by rw [hp0]; exact ⟨rfl, rfl⟩
  rw [← hp] at hr hby hplen ⊢
  have hw2 := hby _ (hw.le hl2)
  obtain ⟨G2, hG2⟩ : ∃ G2, G2 = G ++ [Value.string nm] ++ fldX j p w2 q := ⟨_, rfl⟩
  rw [← hG2]
  have hG2l : G2.length = m + 10 := by rw [hG2, List.length_append, List.length_append, hm]; rfl
  have gx : ∀ (E : List Value) (i : Nat), gv (G2 ++ E) (m + 1 + i) = gv (fldX j p w2 q ++ E) i := fun E i => by
    rw [hG2, List.append_assoc, List.append_assoc, show m + 1 + i = m + (1 + i) by omega, gv_hi hm, show 1 + i = i + 1 by omega]; rfl
  have gs : ∀ (E : List Value), gv (G2 ++ E) m = .string nm := fun E => by
    rw [hG2, List.append_assoc, List.append_assoc, gv_hi0 hm]; rfl
  have gs0 : gv G2 m = .string nm := by have := gs []; rwa [List.append_nil] at this
  have gx0 : ∀ i, gv G2 (m + 1 + i) = gv (fldX j p w2 q) i := fun i => by have := gx [] i; rwa [List.append_nil, List.append_nil] at this
  have g0 : ∀ (E : List Value) (i : Nat), i < m → gv (G2 ++ E) i = gv G i := fun E i hi => by rw [hG2, List.append_assoc, List.append_assoc, gv_of_lt (by omega)]
  have gj : ∀ (E : List Value), gv (G2 ++ E) (m + 1) = .int .i64 (j : Int) := fun E => gx E 0
  have gj0 : gv G2 (m + 1) = .int .i64 (j : Int) := gx0 0
  have hL2 : ∀ (J3 : List Value → H → Prop), (List.take 2 [J0, J1] ++ [J3])[2]? = some J3 := fun _ => rfl
  refine h_ite (fun hc3 => ?_) (fun hc3 => ?_)
  · simp only [X.den, gj0, gs0, vi_int, vb_bool, vs_str, cmp_lss, decide_eq_true_eq] at hc3
    have hjl : j < nm.data.toList.length := by have : nm.data.toList.length = nm.size := rfl; omega
    have hcj : nm.data.toList[j]? = some nm.data.toList[j] := List.getElem?_eq_getElem hjl
    have hgd : nm.data.getD j 0 = nm.data.toList[j] := by
      rw [Array.getD_eq_getD_getElem?, Array.getElem?_eq_getElem (by simpa using hjl)]; simp
    generalize nm.data.toList[j] = c at hcj hgd
    have hfs := foldF_succ (p := p0) hcj
    rw [← hp] at hfs
    have hj4 : j < nm.size := by omega
    have by_c : ∀ n : Int, vb ((X.cmp .eql (.byte (.var m) (.var (m + 1))) (.lit n)).den G2) = decide ((c.toNat : Int) = n) := fun n => by
      simp only [X.den, gj0, gs0, vi_int, vb_bool, vs_str, cmp_eql, Int.toNat_natCast, hgd]
    have done : ∀ {w' q' : Value} {fa' : List Nat} {h' : H} {p' : Ins × RS}, stepF c.toNat p = p' → RowF h' 3 1 q' (p'.1.args.map (.int .i64)) fa' → Fresh h fa' → h.le h' → (∀ g, BytesAt g w2 p.2.1 → BytesAt g w' p'.2.1) → J2 (fldX (j + 1) p' w' q') h' := fun {w' q' fa' h' p'} e k1 k2 k3 k4 => by
      subst e
      refine hJ2 _ _ ⟨j + 1, w', q', fa', by rw [hfs], by omega, by rw [hfs]; exact k1, k2, k3, fun g hg => by rw [hfs]; exact k4 g (hby g hg)⟩ ?_
      show nm.size - ((((j + 1 : Nat) : Nat) : Int)).toNat < nm.size - ((j : Int)).toNat
      omega
    refine ⟨fun _ => ⟨?_, ?_, trivial⟩, ?_⟩
    · simp only [X.den, gj0, vi_int, vb_bool]; exact nat_ge0 j
    · simp only [X.den, gj0, gs0, vi_int, vb_bool, vs_str, cmp_lss, decide_eq_true_eq]; omega
    have hbg : gv G2 (m + 1 + 2) = w2 := gx0 2
    have hcg : gv G2 (m + 1 + 2 + 1) = .int .i64 p.2.2 := gx0 3
    have hpl : p.2.1.length ≤ 1000000000 := by omega
    refine h_ite (fun q1 => ?_) (fun q1 => h_ite (fun q2 => ?_) (fun q2 => h_ite (fun q3 => ?_) (fun q3 => h_ite (fun q4 => ?_) (fun q4 => h_ite (fun q5 => ?_) (fun q5 => ?_)))))
    · rw [by_c, decide_eq_true_eq] at q1
      refine rdK_step (s := p.2) (w := w2) (by omega) (by omega) hbg hcg hw2 hpl fun v' hv' => ?_
      have e : stepF c.toNat p = ({ p.1 with op := (belowR 256 p.2).1 }, (belowR 256 p.2).2) := by unfold stepF; rw [if_pos (by omega)]
      refine nx2_holds (hL2 J2) hj4 (by omega) (gj _) (p := ({ p.1 with op := (belowR 256 p.2).1 }, (belowR 256 p.2).2)) (w' := v') (u := q) ?_ ?_ ?_ ?_ ?_ ?_ ?_ ?_ (done e hr hf hl2 hv')
      · simp only [SV.den, X.den, gx, fldX, List.cons_append, List.nil_append, gv_succ, gv_zero, vi_int]
        rw [u8_id (k256 p.2).1 (k256 p.2).2]
      all_goals simp only [SV.den, X.den, iv, gx, fldX, List.cons_append, List.nil_append, gv_succ, gv_zero, vi_int]
    all_goals rw [by_c, decide_eq_false_iff_not] at q1
    · rw [by_c, decide_eq_true_eq] at q2
      refine rdK_step (s := p.2) (w := w2) (by omega) (by omega) hbg hcg hw2 hpl fun v' hv' => ?_
      have e : stepF c.toNat p = ({ p.1 with d := (belowR 4096 p.2).1 }, (belowR 4096 p.2).2) := by unfold stepF; rw [if_neg (by omega), if_pos (by omega)]
      refine nx2_holds (hL2 J2) hj4 (by omega) (gj _) (p := ({ p.1 with d := (belowR 4096 p.2).1 }, (belowR 4096 p.2).2)) (w' := v') (u := q) ?_ ?_ ?_ ?_ ?_ ?_ ?_ ?_ (done e hr hf hl2 hv')
      all_goals simp only [SV.den, X.den, iv, gx, fldX, List.cons_append, List.nil_append, gv_succ, gv_zero, vi_int]
    all_goals rw [by_c, decide_eq_false_iff_not] at q2
    · rw [by_c, decide_eq_true_eq] at q3
      refine rdK_step (s := p.2) (w := w2) (by omega) (by omega) hbg hcg hw2 hpl fun v' hv' => ?_
      have e : stepF c.toNat p = ({ p.1 with a := (belowR 4096 p.2).1 }, (belowR 4096 p.2).2) := by unfold stepF; rw [if_neg (by omega), if_neg (by omega), if_pos (by omega)]
      refine nx2_holds (hL2 J2) hj4 (by omega) (gj _) (p := ({ p.1 with a := (belowR 4096 p.2).1 }, (belowR 4096 p.2).2)) (w' := v') (u := q) ?_ ?_ ?_ ?_ ?_ ?_ ?_ ?_ (done e hr hf hl2 hv')
      all_goals simp only [SV.den, X.den, iv, gx, fldX, List.cons_append, List.nil_append, gv_succ, gv_zero, vi_int]
    all_goals rw [by_c, decide_eq_false_iff_not] at q3
    · rw [by_c, decide_eq_true_eq] at q4
      refine rdK_step (s := p.2) (w := w2) (by omega) (by omega) hbg hcg hw2 hpl fun v' hv' => ?_
      have e : stepF c.toNat p = ({ p.1 with b := (belowR 4096 p.2).1 }, (belowR 4096 p.2).2) := by unfold stepF; rw [if_neg (by omega), if_neg (by omega), if_neg (by omega), if_pos (by omega)]
      refine nx2_holds (hL2 J2) hj4 (by omega) (gj _) (p := ({ p.1 with b := (belowR 4096 p.2).1 }, (belowR 4096 p.2).2)) (w' := v') (u := q) ?_ ?_ ?_ ?_ ?_ ?_ ?_ ?_ (done e hr hf hl2 hv')
      all_goals simp only [SV.den, X.den, iv, gx, fldX, List.cons_append, List.nil_append, gv_succ, gv_zero, vi_int]
    all_goals rw [by_c, decide_eq_false_iff_not] at q4
    · rw [by_c, decide_eq_true_eq] at q5
      have e : stepF c.toNat p = ({ p.1 with n := (intR p.2).1 }, (intR p.2).2) := by unfold stepF; rw [if_neg (by omega), if_neg (by omega), if_neg (by omega), if_neg (by omega), if_pos (by omega)]
      refine h_call1 (Q := fun r c h' => h' = h2 ∧ r = .int .u64 ((numR p.2).1 : Int) ∧ RdC w2 p.2.1 c (numR p.2).2) ?_ ?_
      · have := s67k hw2 hpl
        have hk : kIdx [1000000] 1000000 = 0 := by simp [kIdx]
        simp only [SV.denL, SV.den, X.den, iv, hk, hbg, gx0 3, fldX, gv_succ, gv_zero, vi_int]
        exact this
      rintro _ _ g ⟨eg, rfl, v', rfl, hv'⟩
      have eg' := eg.symm
      subst eg'
      refine ⟨⟨(hv' _ hw2).fit, ⟨_, rfl⟩, trivial⟩, [.int .u64 ((numR p.2).1 : Int)], ⟨⟨_, rfl⟩, trivial⟩, rfl, ?_⟩
      refine h_call0 (Q := fun r h' => h' = h2 ∧ r = .int .i64 (zag (numR p.2).1)) ?_ ?_
      · have := s71 (h := h2) (numR_lt (s := p.2) hw2.inB)
        simp only [SV.denL, SV.den, X.den, gx, fldX, List.cons_append, List.nil_append, gv_succ, gv_zero, vi_int]
        exact this
      rintro _ g ⟨eg, rfl⟩
      have eg' := eg.symm
      subst eg'
      refine ⟨[.int .i64 (zag (numR p.2).1)], ⟨⟨_, rfl⟩, trivial⟩, rfl, ?_⟩
      rw [List.append_assoc]
      refine nx2_holds (hL2 J2) hj4 (by omega) (gj _) (p := ({ p.1 with n := (intR p.2).1 }, (intR p.2).2)) (w' := v') (u := q) ?_ ?_ ?_ ?_ ?_ ?_ ?_ ?_ (done e hr hf hl2 hv')
      all_goals simp only [SV.den, X.den, iv, gx, fldX, List.cons_append, List.nil_append, gv_succ, gv_zero, vi_int]
      all_goals rfl
    · rw [by_c, decide_eq_false_iff_not] at q5
      obtain ⟨cn, hcn⟩ : ∃ cn : Nat, (belowR 4 p.2).1 = (cn : Int) := ⟨(belowR 4 p.2).1.toNat, by have := (belowR_range 4 p.2).1; omega⟩
      have hcn4 : cn ≤ 3 := by have := belowR_range 4 p.2; omega
      obtain ⟨s3, hs3⟩ : ∃ s3, s3 = (belowR 4 p.2).2 := ⟨_, rfl⟩
      have e : stepF c.toNat p = ({ p.1 with args := p.1.args ++ (argsR cn s3).1 }, (argsR cn s3).2) := by
        unfold stepF; rw [if_neg (by omega), if_neg (by omega), if_neg (by omega), if_neg (by omega), if_neg (by omega), hcn, ← hs3]; simp
      refine rdK_step (s := p.2) (w := w2) (by omega) (by omega) hbg hcg hw2 hpl fun v' hv' => ?_
      rw [← hs3] at hv' ⊢
      rw [hcn]
      have hs3l : s3.1.length ≤ 1000000000 := by rw [hs3]; have := bl 4 p.2; omega
      obtain ⟨G3, hG3⟩ : ∃ G3, G3 = G2 ++ [v', .int .i64 s3.2, .int .i64 (cn : Int)] := ⟨_, rfl⟩
      have gy : ∀ (E : List Value) (i : Nat), gv (G3 ++ E) (m + 1 + i) = gv (fldX j p w2 q ++ ([v', .int .i64 s3.2, .int .i64 (cn : Int)] ++ E)) i := fun E i => by rw [hG3, List.append_assoc, gx]
      have gy0 : ∀ (i : Nat), gv G3 (m + 1 + i) = gv (fldX j p w2 q ++ [v', .int .i64 s3.2, .int .i64 (cn : Int)]) i := fun i => by rw [hG3, gx]
      have gjy : ∀ (E : List Value), gv (G3 ++ E) (m + 1) = .int .i64 (j : Int) := fun E => by rw [hG3, List.append_assoc]; exact gj _
      rw [← hG3]
      have ei : SV.denL G3 dE [(.int .i64 (.lit 0)), (.val (m + 1 + 8)), (.val (m + 1 + 9)), iv (m + 1 + 10)] = [.int .i64 ((0 : Nat) : Int), q, v', .int .i64 (argsR 0 s3).2.2] := by
        simp only [SV.denL, SV.den, X.den, iv, gy0, fldX, List.cons_append, List.nil_append, gv_succ, gv_zero, vi_int]; rfl
      refine h_loop (fun xs h' => ∃ (i : Nat) (q' w' : Value) (fa' : List Nat), xs = [.int .i64 (i : Int), q', w', .int .i64 (argsR i s3).2.2] ∧ i ≤ cn ∧ RowF h' 3 1 q' ((p.1.args ++ (argsR i s3).1).map (.int .i64)) fa' ∧ Fresh h fa' ∧ h.le h' ∧ (∀ g, BytesAt g w2 p.2.1 → BytesAt g w' (argsR i s3).2.1))
        (fun xs h' => cn - (vi (gv xs 0)).toNat) ⟨0, q, v', fa, ei, Nat.zero_le _, by simpa [argsR] using hr, hf, hl2, hv'⟩ ?_
      rintro xs h5 J3 - ⟨i, q', w', fa', rfl, hi, hr', hf', hl5, hby'⟩ hJ3
      have hal := argsR_len i s3
      have hw5 : BytesAt h5 w' (argsR i s3).2.1 := hby' _ (hby _ (hw.le hl5))
      refine h_ite (fun qc => ?_) (fun qc => ?_)
      · simp only [X.den, gy, fldX, List.cons_append, List.nil_append, gv_succ, gv_zero, vi_int, vb_bool, cmp_lss, decide_eq_true_eq] at qc
        refine rdK_step (s := (argsR i s3).2) (w := w') (by omega) (by omega) (by rw [gy]; rfl) (by rw [show m + 1 + 14 + 1 = m + 1 + 15 from rfl, gy]; rfl) hw5 (by omega) fun v6 hv6 => ?_
        rw [List.append_assoc]
        refine ⟨[.int .i64 (belowR 4096 (argsR i s3).2).1], 1, ⟨?_, rfl⟩, ?_⟩
        · simp only [SV.denL, SV.den, X.den, iv, gy, fldX, List.cons_append, List.nil_append, gv_succ, gv_zero, vi_int]
        have e14 : SV.den (G3 ++ ([.int .i64 (i : Int), q', w', .int .i64 (argsR i s3).2.2] ++ [v6, .int .i64 (belowR 4096 (argsR i s3).2).2.2, .int .i64 (belowR 4096 (argsR i s3).2).1])) dE (.val (m + 1 + 13)) = q' := by
          simp only [SV.den, gy]; rfl
        rw [e14]
        have hvq : vlen q' = p.1.args.length + i := by have := hr'.row0.len; simp [hal.2] at this; omega
        refine app_rowF hr' rfl (by rw [zero3]; rfl) (by rw [hvq]; omega) fun q'' h7 fq k1' k2' k3' k4' => ?_
        have k4'' : ∀ y ∈ fq, y ∈ fa' ∨ h5 y = none := fun y hy => by
          rcases k4' with rfl | ⟨x, rfl, hx⟩
          · exact .inl hy
          · rw [List.mem_singleton] at hy; subst hy; exact .inr hx
        refine again_of (L := List.take 3 (List.take 2 [J0, J1] ++ [J2]) ++ [J3]) (J := J3) (xs := [.int .i64 ((i + 1 : Nat) : Int), q'', v6, .int .i64 (argsR (i + 1) s3).2.2]) ?_ rfl ?_
        · rw [List.append_assoc, List.append_assoc]
          simp only [SV.denL, SV.den, X.den, iv, gy, fldX, List.cons_append, List.nil_append, gv_succ, gv_zero, vi_int, argsR_snoc]
          rw [int_add_one (n := 10) (by omega) (by omega)]
        · refine hJ3 _ _ ⟨i + 1, q'', v6, fq, rfl, by omega, ?_, fun y hy => (k4'' y hy).elim (hf' y) (H.le_none hl5), k3'.le hl5 hf', fun g hg => ?_⟩ ?_
          · rw [argsR_snoc, ← List.append_assoc, List.map_append]; exact k1'
          · rw [argsR_snoc]; exact hv6 g (hby' g hg)
          · show cn - ((((i + 1 : Nat) : Nat) : Int)).toNat < cn - ((i : Int)).toNat
            omega
      · simp only [X.den, gy, fldX, List.cons_append, List.nil_append, gv_succ, gv_zero, vi_int, vb_bool, cmp_lss, decide_eq_false_iff_not] at qc
        have : i = cn := by omega
        subst this
        refine nx2_holds (J2 := J2) rfl hj4 (by omega) (gjy _) (p := ({ p.1 with args := p.1.args ++ (argsR i s3).1 }, (argsR i s3).2)) (w' := w') (u := q') ?_ ?_ ?_ ?_ ?_ ?_ ?_ ?_ (done e hr' hf' hl5 hby')
        all_goals simp only [SV.den, X.den, iv, gy, fldX, List.cons_append, List.nil_append, gv_succ, gv_zero, vi_int]
  · simp only [X.den, gj0, gs0, vi_int, vb_bool, vs_str, cmp_lss, decide_eq_false_iff_not] at hc3
    have hje : j = nm.size := by omega
    subst hje
    rw [← hp] at HK
    have hkind := foldF_kind nm p0 nm.size
    rw [← hp] at hkind
    have hkd : p.1.kind = (kn : Int) := by rw [hkind, hp0]
    refine ⟨insC p.1 q, 1, ⟨?_, rfl⟩, ?_⟩
    · have gk : gv G2 19 = .int .i64 (kn : Int) := by have := g0 [] 19 (by omega); rw [List.append_nil] at this; rw [this]; exact hk
      simp only [SV.denL, SV.den, X.den, iv, gx0, gk, fldX, gv_succ, gv_zero, vi_int, ku, insC, hkd]
    · have g14 : SV.den G2 dE (.val 14) = gv G 14 := by have := g0 [] 14 (by omega); rw [List.append_nil] at this; exact this
      rw [g14]
      have := HK q fa h2 w2 hr hf hl2 hby
      refine AppSpec.mono this fun v h'' hJ => ?_
      refine again_of (L := List.take 2 [J0, J1] ++ [J2]) (J := J1) ?_ rfl hJ
      simp only [SV.denL, SV.den, X.den, iv, gx, g0 _ 13 (by omega : 13 < m), fldX, List.cons_append, List.nil_append, gv_succ, gv_zero, vi_int]
end
end Go.Proofs.Ythnoplfjcdkacaa
