/-
  Whether two lists of blocks, two functions, are the same: what the document's answer tells. Conditions: as each contract says.
-/
import Derived.Test.YthnoplfjcdkacaaR3F
import Derived.Test.YthnoplfjcdkacaaMb
set_option linter.unusedVariables false
set_option linter.unusedSimpArgs false
namespace Go.Proofs.Ythnoplfjcdkacaa
open Go

theorem end_cond2 {G : List Value} {e e' : Fin4} (a3 : gv G 3 = .int .u8 e.kind) (a4 : gv G 4 = .int .i64 e.a) (a5 : gv G 5 = .int .i64 e.to) (a6 : gv G 6 = .int .i64 e.el) (a7 : gv G 7 = .int .u8 e'.kind) (a8 : gv G 8 = .int .i64 e'.a) (a9 : gv G 9 = .int .i64 e'.to) (a10 : gv G 10 = .int .i64 e'.el)
    {m m' : Nat} (a11 : vlen (gv G 11) = m) (a12 : vlen (gv G 12) = m') :
    vb ((X.ite (.not (.and (.cmp .eql (.var 3) (.var 7)) (.and (.cmp .eql (.var 4) (.var 8)) (.and (.cmp .eql (.var 5) (.var 9)) (.cmp .eql (.var 6) (.var 10)))))) (.tt true) (.cmp .neq (.len 11) (.len 12))).den G) = true ↔ ¬ (e = e' ∧ m = m') := by
  obtain ⟨k, a, t, l⟩ := e
  obtain ⟨k', a', t', l'⟩ := e'
  simp only at a3 a4 a5 a6 a7 a8 a9 a10
  simp [X.den, a3, a4, a5, a6, a7, a8, a9, a10, a11, a12, vb_ite, cmp_eql, cmp_neq]
  by_cases h : k = k' <;> by_cases h2 : a = a' <;> by_cases h3 : t = t' <;> by_cases h4 : l = l' <;> simp [h, h2, h3, h4]
  omega
theorem ins_cond2 {G : List Value} {y z : Ins} (a16 : gv G 16 = .int .u8 y.kind) (a17 : gv G 17 = .int .u8 y.op) (a18 : gv G 18 = .int .i64 y.d) (a19 : gv G 19 = .int .i64 y.a) (a20 : gv G 20 = .int .i64 y.b) (a21 : gv G 21 = .int .i64 y.n)
    (a24 : gv G 24 = .int .u8 z.kind) (a25 : gv G 25 = .int .u8 z.op) (a26 : gv G 26 = .int .i64 z.d) (a27 : gv G 27 = .int .i64 z.a) (a28 : gv G 28 = .int .i64 z.b) (a29 : gv G 29 = .int .i64 z.n) :
    vb ((X.not (.ite (.ite (.ite (.ite (.ite (.cmp .neq (.var 16) (.var 24)) (.tt true) (.cmp .neq (.var 17) (.var 25))) (.tt true) (.cmp .neq (.var 18) (.var 26))) (.tt true) (.cmp .neq (.var 19) (.var 27))) (.tt true) (.cmp .neq (.var 20) (.var 28))) (.tt true) (.cmp .neq (.var 21) (.var 29)))).den G) = true ↔
      y.kind = z.kind ∧ y.op = z.op ∧ y.d = z.d ∧ y.a = z.a ∧ y.b = z.b ∧ y.n = z.n := by
  simp [X.den, a16, a17, a18, a19, a20, a21, a24, a25, a26, a27, a28, a29, vb_ite, cmp_neq]
  by_cases h : y.kind = z.kind <;> by_cases h2 : y.op = z.op <;> by_cases h3 : y.d = z.d <;> by_cases h4 : y.a = z.a <;> by_cases h5 : y.b = z.b <;> simp [h, h2, h3, h4, h5]
def Okay (bs : List Blk) : Prop := bs.length ≤ 1000 ∧ ∀ b ∈ bs, b.ins.length ≤ 100000 ∧ ∀ x ∈ b.ins, x.args.length ≤ 100000
theorem s41g {h : H} {u v : Value} {bs cs : List Blk} (hu : BlksAt h u bs) (hv : BlksAt h v cs) (h1 : Okay bs) :
    CallsA Try.prog 41 (fun _ => [u, v]) [] h (Ret fun r h' => h' = h ∧ ∃ b, r = .bool b ∧ (b = true ↔ bs = cs)) := by
  refine c41 (G := [u, v]) ⟨hu.fit, hv.fit, trivial⟩ ?_
  obtain ⟨h1, h2⟩ := h1
  have hul := hu.len
  have hvl := hv.len
  have no : (bs = cs → False) → (false = true ↔ bs = cs) := fun g => ⟨fun e => absurd e (by simp), fun e => (g e).elim⟩
  refine h_ite (fun hc => ?_) (fun hlen => ?_)
  · replace hc : cmpOp .neq ((vlen u : Nat) : Int) ((vlen v : Nat) : Int) = true := hc
    rw [hul, hvl, cmp_neq, decide_eq_true_eq] at hc
    exact ⟨rfl, rfl, false, rfl, no fun e => hc (by rw [e])⟩
  replace hlen : cmpOp .neq ((vlen u : Nat) : Int) ((vlen v : Nat) : Int) = false := hlen
  rw [hul, hvl, cmp_neq, decide_eq_false_iff_not, Decidable.not_not] at hlen
  have hlen' : bs.length = cs.length := by omega
  refine h_range (n := bs.length) (fun i h' => h' = h ∧ ∀ m, m < i → bs[m]? = cs[m]?) hul (by omega) rfl (by omega) ⟨rfl, fun m hm => absurd hm (Nat.not_lt_zero _)⟩ ?_ ?_
  · rintro i h' J hi ⟨rfl, hI⟩ hJ
    have hx : bs[i]? = some bs[i] := List.getElem?_eq_getElem hi
    have hxm : bs[i] ∈ bs := List.getElem_mem _
    have hz : cs[i]? = some cs[i] := List.getElem?_eq_getElem (by omega)
    generalize bs[i] = x at hx hxm
    generalize cs[i] = z at hz
    obtain ⟨k1, k2⟩ := h2 x hxm
    obtain ⟨_, ⟨w1, rfl, hw1⟩, hr1⟩ := hu.get i x hx
    obtain ⟨_, ⟨w2, rfl, hw2⟩, hr2⟩ := hv.get i z hz
    have hl1 := hw1.len
    have hl2 := hw2.len
    have e1 : Reads h' (((vaddr u).add (i * 5)).add 1) (endC x.en) := hr1.sub fun j z hz => by rw [Nat.add_comm]; simpa using hz
    have e2 : Reads h' (((vaddr v).add (i * 5)).add 1) (endC z.en) := hr2.sub fun j z hz => by rw [Nat.add_comm]; simpa using hz
    have f1 : Reads h' (((vaddr u).add (i * 5)).add 0) [w1] := hr1.sub fun j z hz => by obtain ⟨rfl, rfl⟩ := get_one hz; rfl
    have f2 : Reads h' (((vaddr v).add (i * 5)).add 0) [w2] := hr2.sub fun j z hz => by obtain ⟨rfl, rfl⟩ := get_one hz; rfl
    have n0 : cmpOp .geq (i : Int) 0 = true := by rw [cmp_geq, decide_eq_true_eq]; omega
    have n1 : cmpOp .lss (i : Int) ((vlen u : Nat) : Int) = true := by rw [hul, cmp_lss, decide_eq_true_eq]; omega
    have n2 : cmpOp .lss (i : Int) ((vlen v : Nat) : Int) = true := by rw [hvl, cmp_lss, decide_eq_true_eq]; omega
    refine h_load (endC x.en) (endFit x.en) (fun _ => e1) ⟨fun _ => ⟨n0, n2, trivial⟩, h_load (endC z.en) (endFit z.en) (fun _ => e2) ⟨fun _ => ⟨n0, n1, trivial⟩, h_load [w1] ⟨hw1.fit, trivial⟩ (fun _ => f1) ⟨fun _ => ⟨n0, n2, trivial⟩, h_load [w2] ⟨hw2.fit, trivial⟩ (fun _ => f2) ?_⟩⟩⟩
    simp only [List.cons_append, List.nil_append, endC]
    have hcond := @end_cond2 [u, v, Value.int .i64 (i : Int), .int .u8 x.en.kind, .int .i64 x.en.a, .int .i64 x.en.to, .int .i64 x.en.el, .int .u8 z.en.kind, .int .i64 z.en.a, .int .i64 z.en.to, .int .i64 z.en.el, w1, w2] x.en z.en rfl rfl rfl rfl rfl rfl rfl rfl _ _ hl1 hl2
    refine h_ite (fun hc => ⟨rfl, rfl, false, rfl, no fun e => ?_⟩) (fun hc => ?_)
    · have := hcond.1 hc
      rw [e, hz] at hx
      cases hx
      exact this ⟨rfl, rfl⟩
    have hc' : x.en = z.en ∧ x.ins.length = z.ins.length := Classical.not_not.1 fun g => by
      have := hcond.2 g
      rw [this] at hc; cases hc
    obtain ⟨hen, hil⟩ := hc'
    refine h_loop (fun xs g => ∃ j : Nat, xs = [.int .i64 (j : Int)] ∧ j ≤ x.ins.length ∧ g = h' ∧ ∀ m, m < j → x.ins[m]? = z.ins[m]?) (fun xs g => x.ins.length - (vi (gv xs 0)).toNat) ⟨0, rfl, Nat.zero_le _, rfl, fun m hm => absurd hm (Nat.not_lt_zero _)⟩ ?_
    rintro xs g J2 - ⟨j, rfl, hj, rfl, hIj⟩ hJ2
    refine ⟨fun _ => ⟨n0, n1, trivial⟩, h_load [w1] ⟨hw1.fit, trivial⟩ (fun _ => f1) (h_ite (fun hc => ?_) (fun hc => ?_))⟩
    · replace hc : cmpOp .lss (j : Int) ((vlen w1 : Nat) : Int) = true := hc
      have hc' := hc
      rw [hl1, cmp_lss, decide_eq_true_eq] at hc
      have hlt : j < x.ins.length := by omega
      have hy : x.ins[j]? = some x.ins[j] := List.getElem?_eq_getElem hlt
      have hym : x.ins[j] ∈ x.ins := List.getElem_mem _
      have hq : z.ins[j]? = some z.ins[j] := List.getElem?_eq_getElem (by omega)
      generalize x.ins[j] = y at hy hym
      generalize z.ins[j] = y' at hq
      have m0 : cmpOp .geq (j : Int) 0 = true := by rw [cmp_geq, decide_eq_true_eq]; omega
      have m2 : cmpOp .lss (j : Int) ((vlen w2 : Nat) : Int) = true := by rw [hl2, cmp_lss, decide_eq_true_eq]; omega
      obtain ⟨_, ⟨q1, rfl, hq1⟩, g1⟩ := hw1.get j y hy
      obtain ⟨_, ⟨q2, rfl, hq2⟩, g2⟩ := hw2.get j y' hq
      have diff : y ≠ y' → (false = true ↔ bs = cs) := fun g => no fun e => by
        rw [e, hz] at hx
        cases hx
        rw [hq] at hy
        cases hy
        exact g rfl
      refine ⟨fun _ => ⟨n0, n1, trivial⟩, h_load [w1] ⟨hw1.fit, trivial⟩ (fun _ => f1) ⟨fun _ => ⟨m0, hc', trivial⟩, h_load (insC y q1) (insFit y q1 hq1.fit) (fun _ => g1) ⟨fun _ => ⟨n0, n2, trivial⟩, h_load [w2] ⟨hw2.fit, trivial⟩ (fun _ => f2)
        ⟨fun _ => ⟨m0, m2, trivial⟩, h_load (insC y' q2) (insFit y' q2 hq2.fit) (fun _ => g2) ?_⟩⟩⟩⟩
      simp only [List.cons_append, List.nil_append, insC]
      have icond := @ins_cond2 [u, v, Value.int .i64 (i : Int), .int .u8 x.en.kind, .int .i64 x.en.a, .int .i64 x.en.to, .int .i64 x.en.el, .int .u8 z.en.kind, .int .i64 z.en.a, .int .i64 z.en.to, .int .i64 z.en.el, w1, w2, .int .i64 (j : Int), w1, w1, .int .u8 y.kind, .int .u8 y.op, .int .i64 y.d, .int .i64 y.a, .int .i64 y.b, .int .i64 y.n, q1, w2, .int .u8 y'.kind, .int .u8 y'.op, .int .i64 y'.d, .int .i64 y'.a, .int .i64 y'.b, .int .i64 y'.n, q2] y y' rfl rfl rfl rfl rfl rfl rfl rfl rfl rfl rfl rfl
      refine ⟨?_, ?_⟩
      all_goals refine ⟨fun _ => g2, fun _ => f2, fun _ => g1, fun _ => f1, fun _ => g2, fun _ => f2, fun _ => g1, fun _ => f1, fun _ => g2, fun _ => f2, ?_⟩
      all_goals refine h_ite (fun hc3 => h_call0 (s62 hq1 hq2 (k2 y hym)) ?_) (fun hc3 => ⟨rfl, rfl, false, rfl, diff fun e => ?_⟩)
      case refine_1.refine_2 | refine_2.refine_2 =>
        have := icond.2 (by subst e; exact ⟨rfl, rfl, rfl, rfl, rfl, rfl⟩)
        rw [this] at hc3; cases hc3
      all_goals obtain ⟨d1, d2, d3, d4, d5, d6⟩ := icond.1 hc3
      all_goals rintro _ _ ⟨rfl, rfl⟩
      all_goals refine ⟨[.bool (decide (y.args = y'.args))], ⟨⟨_, rfl⟩, trivial⟩, by simp [rval, rvals, gv], h_ite (fun hc4 => ⟨rfl, rfl, false, rfl, diff fun e => ?_⟩) (fun hc4 => ?_)⟩
      case refine_1.refine_1.refine_1 | refine_2.refine_1.refine_1 =>
        replace hc4 : vb (Value.bool (!(decide (y.args = y'.args)))) = true := hc4
        subst e
        simp at hc4
      all_goals replace hc4 : vb (Value.bool (!(decide (y.args = y'.args)))) = false := hc4
      all_goals simp only [vb_bool, Bool.not_eq_false', decide_eq_true_eq] at hc4
      all_goals show J2 [.int .i64 (intOp .add .i64 (j : Int) 1)] _
      all_goals rw [int_add_one (n := x.ins.length) hlt (by omega)]
      all_goals refine hJ2 _ _ ⟨j + 1, rfl, by omega, rfl, fun m hm => ?_⟩ (by simp only [gv_zero, vi_int]; omega)
      all_goals rcases Nat.lt_succ_iff_lt_or_eq.1 hm with g | rfl
      all_goals first | exact hIj m g | (rw [hy, hq]; congr 1; cases y; cases y'; simp_all)
    · replace hc : cmpOp .lss (j : Int) ((vlen w1 : Nat) : Int) = false := hc
      rw [hl1, cmp_lss, decide_eq_false_iff_not] at hc
      refine hJ _ ⟨rfl, fun m hm => ?_⟩
      rcases Nat.lt_succ_iff_lt_or_eq.1 hm with g | rfl
      · exact hI m g
      · have : x.ins = z.ins := List.ext_getElem? fun m => by
          by_cases g : m < j
          · exact hIj m g
          · rw [List.getElem?_eq_none (by omega), List.getElem?_eq_none (by omega)]
        rw [hx, hz]; congr 1; cases x; cases z; simp_all
  · rintro h' J ⟨rfl, hI⟩
    refine ⟨rfl, rfl, true, rfl, fun _ => ?_, fun _ => rfl⟩
    exact List.ext_getElem? fun m => by
      by_cases g : m < bs.length
      · exact hI m g
      · rw [List.getElem?_eq_none (by omega), List.getElem?_eq_none (by omega)]
theorem s17g {h : H} {u v : Value} {p n p' n' : Int} {bs cs : List Blk} (hu : BlksAt h u bs) (hv : BlksAt h v cs) (h1 : Okay bs) :
    CallsA Try.prog 17 (fun _ => [.agg #[.int .i64 p, .int .i64 n, u], .agg #[.int .i64 p', .int .i64 n', v]]) [] h (Ret fun r h' => h' = h ∧ ∃ b, r = .bool b ∧ (b = true ↔ p = p' ∧ n = n' ∧ bs = cs)) := by
  refine c17 (G := [.int .i64 p, .int .i64 n, u, .int .i64 p', .int .i64 n', v]) ⟨⟨_, rfl⟩, ⟨_, rfl⟩, hu.fit, ⟨_, rfl⟩, ⟨_, rfl⟩, hv.fit, trivial⟩ ?_
  refine h_ite (fun hc => h_call0 (s41g hu hv h1) ?_) (fun hc => ?_)
  · simp [X.den, gv_zero, gv_succ, vb_ite, cmp_eql] at hc
    rintro _ _ ⟨rfl, b, rfl, hb⟩
    refine ⟨[.bool b], ⟨⟨_, rfl⟩, trivial⟩, rfl, rfl, rfl, b, rfl, hb.trans ⟨fun e => ⟨hc.1, hc.2, e⟩, fun e => e.2.2⟩⟩
  · simp [X.den, gv_zero, gv_succ, vb_ite, cmp_eql] at hc
    exact ⟨rfl, rfl, false, rfl, fun e => absurd e (by simp), fun e => absurd e.2.1 (hc e.1)⟩
theorem okay_made {p0 p1 p2 : Int} {l : List Int} (h0 : 0 ≤ p0) (h1 : 0 ≤ p1) (h2 : 0 ≤ p2) (hl : InB l) : Okay (madeB p0 p1 p2 l) := by
  have := madeB_small (p0 := p0) (p1 := p1) (p2 := p2) h0 h1 h2 hl
  exact ⟨this.1, fun b hb => ⟨by have := (this.2 b hb).1; omega, fun x hx => by have := (this.2 b hb).2 x hx; omega⟩⟩
theorem made_zero {p0 p1 p2 : Int} {l : List Int} (h0 : 0 ≤ p0) (h1 : 0 ≤ p1) (h2 : 0 ≤ p2) (hl : InB l) : (checkM (madeP p0) (madeV p0 p1) (madeB p0 p1 p2 l)).1 = 0 := by
  have bb := madeV_range h0 h1
  have c := madeN_range h2
  have hBl := madeB_len (p0 := p0) (p1 := p1) (l := l) h2
  rw [made_ok (w := madeV p0 p1) h0 h1 h2 hl (Int.le_refl _) (by omega) (fun b hb => hb) (by omega) (by omega)]
theorem s32g {h : H} {u v : Value} {p r s p' r' s' : Int} {bs cs : List Blk} (hu : BlksAt h u bs) (hv : BlksAt h v cs) (h1 : Okay bs) :
    CallsA Try.prog 32 (fun _ => [.agg #[.int .i64 p, .int .i64 r, .int .i64 s, u], .agg #[.int .i64 p', .int .i64 r', .int .i64 s', v]]) [] h (Ret fun q h' => h' = h ∧ ∃ b, q = .bool b ∧ (b = true ↔ p = p' ∧ r = r' ∧ s = s' ∧ bs = cs)) := by
  refine c32 (G := [.int .i64 p, .int .i64 r, .int .i64 s, u, .int .i64 p', .int .i64 r', .int .i64 s', v]) ⟨⟨_, rfl⟩, ⟨_, rfl⟩, ⟨_, rfl⟩, hu.fit, ⟨_, rfl⟩, ⟨_, rfl⟩, ⟨_, rfl⟩, hv.fit, trivial⟩ ?_
  refine h_ite (fun hc => h_call0 (s41g hu hv h1) ?_) (fun hc => ?_)
  · simp [X.den, gv_zero, gv_succ, vb_ite, cmp_eql] at hc
    rintro _ _ ⟨rfl, b, rfl, hb⟩
    exact ⟨[.bool b], ⟨⟨_, rfl⟩, trivial⟩, rfl, rfl, rfl, b, rfl, hb.trans ⟨fun e => ⟨by omega, by omega, by omega, e⟩, fun e => e.2.2.2⟩⟩
  · simp [X.den, gv_zero, gv_succ, vb_ite, cmp_eql] at hc
    exact ⟨rfl, rfl, false, rfl, fun e => absurd e (by simp), fun e => absurd e.2.2.1 (hc e.1 e.2.1)⟩
theorem encF_len {p n : Int} {bs : List Blk} (h : Fine bs) : 1 ≤ (encF p n bs).length ∧ (encF p n bs).length ≤ 90000000 := by
  have a1 := lebI_len p
  have a2 := lebI_len n
  have a3 := lebI_len bs.length
  have a4 := blks_enc_len h.2
  have h16 := h.1
  have a5 : 1 ≤ (lebI p).length := by
    unfold lebI
    generalize u64 p = m
    by_cases hm : m < 128
    · rw [leb_lt hm]; simp
    · rw [leb_ge (by omega)]; simp
  unfold encF encBs
  simp only [List.length_append]; omega
theorem encC_len {p r s : Int} {bs : List Blk} (h : Fine bs) : 1 ≤ (encC p r s bs).length ∧ (encC p r s bs).length ≤ 100000000 := by
  have a1 := lebI_len r
  have := encF_len (p := p) (n := s) h
  have e : (encC p r s bs).length = (encF p s bs).length + (lebI r).length := by unfold encC encF; simp only [List.length_append]; omega
  omega
end Go.Proofs.Ythnoplfjcdkacaa
