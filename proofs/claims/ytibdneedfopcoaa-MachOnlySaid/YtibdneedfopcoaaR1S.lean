/-
  Blocks that read alike are the same. Conditions: as the contract says.
-/
import Derived.Test.YtibdneedfopcoaaR1IrUses
import Derived.Test.YtibdneedfopcoaaR1L
set_option linter.unusedVariables false
set_option linter.unusedSimpArgs false
namespace Go.Proofs.Ytibdneedfopcoaa
open Go

theorem Reads.sub {h : H} {a : Addr} {c xs : List Value} {o : Nat} (hr : Reads h a c) (hx : ∀ j u, xs[j]? = some u → c[o + j]? = some u) : Reads h (a.add o) xs := fun j u hj => by
  rw [add_add]; exact hr _ _ (hx j u hj)
theorem end_cond {G : List Value} {e : Fin4} (a3 : gv G 3 = .int .u8 e.kind) (a4 : gv G 4 = .int .i64 e.a) (a5 : gv G 5 = .int .i64 e.to) (a6 : gv G 6 = .int .i64 e.el) (a7 : gv G 7 = .int .u8 e.kind) (a8 : gv G 8 = .int .i64 e.a) (a9 : gv G 9 = .int .i64 e.to) (a10 : gv G 10 = .int .i64 e.el)
    {m : Nat} (a11 : vlen (gv G 11) = m) (a12 : vlen (gv G 12) = m) :
    vb ((X.ite (.not (.and (.cmp .eql (.var 3) (.var 7)) (.and (.cmp .eql (.var 4) (.var 8)) (.and (.cmp .eql (.var 5) (.var 9)) (.cmp .eql (.var 6) (.var 10)))))) (.tt true) (.cmp .neq (.len 11) (.len 12))).den G) = false := by
  simp [X.den, a3, a4, a5, a6, a7, a8, a9, a10, a11, a12, vb_ite, cmp_eql, cmp_neq]
theorem ins_cond {G : List Value} {y : Ins} {q1 q2 : Value} (a16 : gv G 16 = .int .u8 y.kind) (a17 : gv G 17 = .int .u8 y.op) (a18 : gv G 18 = .int .i64 y.d) (a19 : gv G 19 = .int .i64 y.a) (a20 : gv G 20 = .int .i64 y.b) (a21 : gv G 21 = .int .i64 y.n)
    (a24 : gv G 24 = .int .u8 y.kind) (a25 : gv G 25 = .int .u8 y.op) (a26 : gv G 26 = .int .i64 y.d) (a27 : gv G 27 = .int .i64 y.a) (a28 : gv G 28 = .int .i64 y.b) (a29 : gv G 29 = .int .i64 y.n) :
    vb ((X.not (.ite (.ite (.ite (.ite (.ite (.cmp .neq (.var 16) (.var 24)) (.tt true) (.cmp .neq (.var 17) (.var 25))) (.tt true) (.cmp .neq (.var 18) (.var 26))) (.tt true) (.cmp .neq (.var 19) (.var 27))) (.tt true) (.cmp .neq (.var 20) (.var 28))) (.tt true) (.cmp .neq (.var 21) (.var 29)))).den G) = true := by
  simp [X.den, a16, a17, a18, a19, a20, a21, a24, a25, a26, a27, a28, a29, vb_ite, cmp_neq]
theorem s30 {h : H} {u v : Value} {bs : List Blk} (hu : BlksAt h u bs) (hv : BlksAt h v bs) (h1 : bs.length ≤ 1000) (h2 : ∀ b ∈ bs, b.ins.length ≤ 100000 ∧ ∀ x ∈ b.ins, x.args.length ≤ 100000) :
    CallsA Try.prog 30 (fun _ => [u, v]) [] h (Ret fun r h' => h' = h ∧ r = .bool true) := by
  refine c30 (G := [u, v]) ⟨hu.fit, hv.fit, trivial⟩ ?_
  have hul := hu.len
  have hvl := hv.len
  refine h_ite (fun hc => ?_) (fun _ => ?_)
  · exfalso
    replace hc : cmpOp .neq ((vlen u : Nat) : Int) ((vlen v : Nat) : Int) = true := hc
    rw [hul, hvl, cmp_neq, decide_eq_true_eq] at hc
    exact hc rfl
  refine h_range (n := bs.length) (fun i h' => h' = h) hul (by omega) rfl (by omega) rfl ?_ ?_
  · rintro i h' J hi rfl hJ
    have hx : bs[i]? = some bs[i] := List.getElem?_eq_getElem hi
    have hxm : bs[i] ∈ bs := List.getElem_mem _
    generalize bs[i] = x at hx hxm
    obtain ⟨k1, k2⟩ := h2 x hxm
    obtain ⟨_, ⟨w1, rfl, hw1⟩, hr1⟩ := hu.get i x hx
    obtain ⟨_, ⟨w2, rfl, hw2⟩, hr2⟩ := hv.get i x hx
    have hl1 := hw1.len
    have hl2 := hw2.len
    have e1 : Reads h' (((vaddr u).add (i * 5)).add 1) (endC x.en) := hr1.sub fun j z hz => by rw [Nat.add_comm]; simpa using hz
    have e2 : Reads h' (((vaddr v).add (i * 5)).add 1) (endC x.en) := hr2.sub fun j z hz => by rw [Nat.add_comm]; simpa using hz
    have f1 : Reads h' (((vaddr u).add (i * 5)).add 0) [w1] := hr1.sub fun j z hz => by obtain ⟨rfl, rfl⟩ := get_one hz; rfl
    have f2 : Reads h' (((vaddr v).add (i * 5)).add 0) [w2] := hr2.sub fun j z hz => by obtain ⟨rfl, rfl⟩ := get_one hz; rfl
    have n0 : cmpOp .geq (i : Int) 0 = true := by rw [cmp_geq, decide_eq_true_eq]; omega
    have n1 : cmpOp .lss (i : Int) ((vlen u : Nat) : Int) = true := by rw [hul, cmp_lss, decide_eq_true_eq]; omega
    have n2 : cmpOp .lss (i : Int) ((vlen v : Nat) : Int) = true := by rw [hvl, cmp_lss, decide_eq_true_eq]; omega
    refine h_load (endC x.en) (endFit x.en) (fun _ => e1) ⟨fun _ => ⟨n0, n2, trivial⟩, h_load (endC x.en) (endFit x.en) (fun _ => e2) ⟨fun _ => ⟨n0, n1, trivial⟩, h_load [w1] ⟨hw1.fit, trivial⟩ (fun _ => f1) ⟨fun _ => ⟨n0, n2, trivial⟩, h_load [w2] ⟨hw2.fit, trivial⟩ (fun _ => f2) ?_⟩⟩⟩
    simp only [List.cons_append, List.nil_append, endC]
    refine h_ite (fun hc => absurd (hc.symm.trans (end_cond (e := x.en) (m := x.ins.length) rfl rfl rfl rfl rfl rfl rfl rfl hl1 hl2)) (by simp)) (fun _ => ?_)
    refine h_loop (fun xs g => ∃ j : Nat, xs = [.int .i64 (j : Int)] ∧ j ≤ x.ins.length ∧ g = h') (fun xs g => x.ins.length - (vi (gv xs 0)).toNat) ⟨0, rfl, Nat.zero_le _, rfl⟩ ?_
    rintro xs g J2 - ⟨j, rfl, hj, rfl⟩ hJ2
    refine ⟨fun _ => ⟨n0, n1, trivial⟩, h_load [w1] ⟨hw1.fit, trivial⟩ (fun _ => f1) (h_ite (fun hc => ?_) (fun hc => ?_))⟩
    · replace hc : cmpOp .lss (j : Int) ((vlen w1 : Nat) : Int) = true := hc
      have hc' := hc
      rw [hl1, cmp_lss, decide_eq_true_eq] at hc
      have hlt : j < x.ins.length := by omega
      have hy : x.ins[j]? = some x.ins[j] := List.getElem?_eq_getElem hlt
      have hym : x.ins[j] ∈ x.ins := List.getElem_mem _
      generalize x.ins[j] = y at hy hym
      have m0 : cmpOp .geq (j : Int) 0 = true := by rw [cmp_geq, decide_eq_true_eq]; omega
      have m2 : cmpOp .lss (j : Int) ((vlen w2 : Nat) : Int) = true := by rw [hl2, cmp_lss, decide_eq_true_eq]; omega
      obtain ⟨_, ⟨q1, rfl, hq1⟩, g1⟩ := hw1.get j y hy
      obtain ⟨_, ⟨q2, rfl, hq2⟩, g2⟩ := hw2.get j y hy
      refine ⟨fun _ => ⟨n0, n1, trivial⟩, h_load [w1] ⟨hw1.fit, trivial⟩ (fun _ => f1) ⟨fun _ => ⟨m0, hc', trivial⟩, h_load (insC y q1) (insFit y q1 hq1.fit) (fun _ => g1) ⟨fun _ => ⟨n0, n2, trivial⟩, h_load [w2] ⟨hw2.fit, trivial⟩ (fun _ => f2)
        ⟨fun _ => ⟨m0, m2, trivial⟩, h_load (insC y q2) (insFit y q2 hq2.fit) (fun _ => g2) ?_⟩⟩⟩⟩
      simp only [List.cons_append, List.nil_append, insC]
      refine ⟨?_, ?_⟩
      all_goals refine ⟨fun _ => g2, fun _ => f2, fun _ => g1, fun _ => f1, fun _ => g2, fun _ => f2, fun _ => g1, fun _ => f1, fun _ => g2, fun _ => f2, ?_⟩
      all_goals refine h_ite (fun _ => h_call0 (s20 hq1 hq2 (k2 y hym)) ?_) (fun hc3 => absurd (hc3.symm.trans (ins_cond (y := y) (q1 := q1) (q2 := q2) rfl rfl rfl rfl rfl rfl rfl rfl rfl rfl rfl rfl)) (by simp))
      all_goals rintro _ _ ⟨rfl, rfl⟩
      all_goals refine ⟨[.bool true], ⟨⟨_, rfl⟩, trivial⟩, by simp [rval, rvals, gv], h_ite (fun hc => by cases hc) (fun _ => ?_)⟩
      all_goals show J2 [.int .i64 (intOp .add .i64 (j : Int) 1)] _
      all_goals rw [int_add_one (n := x.ins.length) hlt (by omega)]
      all_goals exact hJ2 _ _ ⟨j + 1, rfl, by omega, rfl⟩ (by simp only [gv_zero, vi_int]; omega)
    · exact hJ _ rfl
  · rintro h' J rfl
    exact ⟨rfl, rfl, rfl⟩
theorem s31 {h : H} {p n : Int} {u v : Value} {bs : List Blk} (hu : BlksAt h u bs) (hv : BlksAt h v bs) (h1 : bs.length ≤ 1000) (h2 : ∀ b ∈ bs, b.ins.length ≤ 100000 ∧ ∀ x ∈ b.ins, x.args.length ≤ 100000) :
    CallsA Try.prog 31 (fun _ => [.agg #[.int .i64 p, .int .i64 n, u], .agg #[.int .i64 p, .int .i64 n, v]]) [] h (Ret fun r h' => h' = h ∧ r = .bool true) := by
  refine c31 (G := [.int .i64 p, .int .i64 n, u, .int .i64 p, .int .i64 n, v]) ⟨⟨_, rfl⟩, ⟨_, rfl⟩, hu.fit, ⟨_, rfl⟩, ⟨_, rfl⟩, hv.fit, trivial⟩ ?_
  refine h_ite (fun _ => h_call0 (s30 hu hv h1 h2) ?_) (fun hc => ?_)
  · rintro _ _ ⟨rfl, rfl⟩
    exact ⟨[.bool true], ⟨⟨_, rfl⟩, trivial⟩, rfl, rfl, rfl, rfl⟩
  · exfalso
    simp [X.den, gv_zero, gv_succ, vb_ite, cmp_eql] at hc
end Go.Proofs.Ytibdneedfopcoaa
