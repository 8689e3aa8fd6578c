/-
  What the program reads: blocks, a function, code. Conditions: as each contract says.
-/
import Derived.Test.YthnoplfjcdkacaaR3J
set_option linter.unusedVariables false
set_option linter.unusedSimpArgs false
namespace Go.Proofs.Ythnoplfjcdkacaa
open Go

theorem belowR_ok {n : Nat} {s : RS} (h : (belowR n s).1 ≠ 0) : (belowR n s).2.2 = 0 := by
  unfold belowR at h ⊢
  by_cases c1 : (numR s).2.2 ≠ 0
  · rw [if_pos c1] at h; exact absurd rfl h
  · rw [if_neg c1] at h ⊢
    by_cases c2 : n ≤ (numR s).1
    · rw [if_pos c2] at h; exact absurd rfl h
    · rw [if_neg c2]; exact Decidable.not_not.1 c1
section
variable {g h : H} {b : Nat}
theorem back {h h1 : H} (hk : KeptH h h1 [b]) (hb : (h1 b).isSome = true) {x : Nat} (hx : h1 x = none) : h x = none := by
  cases e : h x with
  | none => rfl
  | some o =>
    by_cases hxb : x ∈ [b]
    · rw [List.mem_singleton] at hxb; subst hxb; rw [hx] at hb; cases hb
    · have := hk x hxb (by rw [e]; rfl)
      rw [hx, e] at this; cases this
theorem Rdr.app {h1 h2 : H} {s0 s : RS} {fp : List Nat} (k0 : Rdr g h b s0) (k1 : Rdr g h1 b s) (hk : KeptH h1 h2 fp) (hf : Fresh h fp) : Rdr g h2 b s := by
  have hlb := k0.live
  obtain ⟨a1, a2, -⟩ := k0
  obtain ⟨r1, r2, v, r3, ety, r4⟩ := k1
  refine ⟨r1, fun x o ex => ?_, v, r3, ety, ?_⟩
  · have hx1 := r2 x o ex
    rw [hk x (fun hx => by have := hf x hx; rw [a2 x o ex] at this; cases this) (by rw [hx1]; rfl)]
    exact hx1
  · rw [hk b (fun hx => by have := hf b hx; rw [this] at hlb; cases hlb) (by rw [r4]; rfl)]; exact r4
theorem notb {s0 : RS} {fp : List Nat} (k0 : Rdr g h b s0) (hf : Fresh h fp) : ∀ x ∈ fp, x ∉ [b] := fun x hx hb => by
  rw [List.mem_singleton] at hb
  subst hb
  have := k0.live; rw [hf x hx] at this; cases this
set_option maxRecDepth 4000 in
theorem s51 {s : RS} (k : Rdr g h b s) (hl : s.1.length ≤ 1000000000) {most : Nat} (hm : most ≤ 1000) :
    CallsA Try.prog 51 (fun _ => [ptrB b, .int .i64 (most : Int)]) [] h (Ret fun r h' => Rdr g h' b (readBs most s).2 ∧ KeptH h h' [b] ∧ ∃ fp, OwnBlks h' r (readBs most s).1 fp ∧ Fresh h fp ∧ fp.Nodup) := by
  refine c51 (G := [ptrB b, .int .i64 (most : Int)]) ⟨⟨_, rfl⟩, ⟨_, rfl⟩, trivial⟩ ?_
  have bl := fun n s => belowR_len n s
  refine below_step (n := 17) rfl rfl (by omega) (by omega) k hl fun h1 k1 hk1 => ?_
  obtain ⟨n, hn⟩ : ∃ n, n = (belowR 17 s).1 := ⟨_, rfl⟩
  obtain ⟨s1, hs1⟩ : ∃ s1, s1 = (belowR 17 s).2 := ⟨_, rfl⟩
  have hr := belowR_range 17 s
  have hok := belowR_ok (n := 17) (s := s)
  have hl1 : s1.1.length ≤ 1000000000 := by rw [hs1]; have := bl 17 s; omega
  have eR : readBs most s = blksR most n.toNat s1 := by unfold readBs; rw [← hn, ← hs1]
  rw [← hn] at hr hok ⊢
  rw [← hs1] at k1 hok
  rw [eR]
  obtain ⟨m, rfl⟩ : ∃ m : Nat, n = (m : Int) := ⟨n.toNat, by omega⟩
  rw [Int.toNat_natCast]
  simp only [List.cons_append, List.nil_append]
  have hm17 : m < 17 := by omega
  have hs0 : 0 < m → s1.2 = 0 := fun q => hok (by omega)
  refine h_loop (fun xs h' => ∃ (i : Nat) (out : Value) (fp : List Nat), xs = [out, .int .i64 (i : Int)] ∧ i ≤ m ∧ Rdr g h' b (blksR most i s1).2 ∧ OwnBlks h' out (blksR most i s1).1 fp ∧ (0 < m → (blksR most i s1).2.2 = 0) ∧ Fresh h fp ∧ fp.Nodup ∧ KeptH h h' [b])
    (fun xs h' => m - (vi (gv xs 1)).toNat) ⟨0, .slice none 0 0, [], rfl, Nat.zero_le _, k1, SlF.nil, hs0, (fun b hb => by cases hb), List.nodup_nil, hk1⟩ ?_
  rintro xs h2 J - ⟨i, out, fp, rfl, hi, k2, ho, hc0, hf, hnd, hk2⟩ hJ
  simp only [List.cons_append, List.nil_append]
  refine h_ite (fun hc => ?_) (fun hc => ?_)
  · replace hc : cmpOp .lss (i : Int) (m : Int) = true := hc
    rw [cmp_lss, decide_eq_true_eq] at hc
    have him : i < m := by omega
    have hs00 := hs0 (by omega)
    have hci := hc0 (by omega)
    obtain ⟨si, hsi⟩ : ∃ si, si = (blksR most i s1).2 := ⟨_, rfl⟩
    have hbl := blksR_len most hs00 i
    rw [← hsi] at k2 hci hbl
    have hsnoc := blksR_snoc most i s1 hs00
    rw [← hsi] at hsnoc
    rw [if_neg (by simpa using hci)] at hsnoc
    have em : intOp .add .i64 (most : Int) 1 = ((most + 1 : Nat) : Int) := int_add_one (n := 2000) (by omega) (by omega)
    refine below_step (n := most + 1) rfl em (by omega) (by omega) k2 (by omega) fun h3 k3 hk3 => ?_
    obtain ⟨c, hcd⟩ : ∃ c, c = (belowR (most + 1) si).1 := ⟨_, rfl⟩
    obtain ⟨s2, hs2⟩ : ∃ s2, s2 = (belowR (most + 1) si).2 := ⟨_, rfl⟩
    have hrc := belowR_range (most + 1) si
    have hl2 : s2.1.length ≤ s1.1.length := by rw [hs2]; have := bl (most + 1) si; omega
    rw [← hcd] at hrc ⊢
    rw [← hs2] at k3
    obtain ⟨cn, rfl⟩ : ∃ cn : Nat, c = (cn : Int) := ⟨c.toNat, by omega⟩
    simp only [List.cons_append, List.nil_append]
    have hk03 := hk2.trans hk3
    have ho3 := ho.agree blkF_good (hk3.agree (ho.live blkF_good) (notb k hf))
    refine h_loop (fun xs h' => ∃ (j : Nat) (l : Value) (fq : List Nat), xs = [.int .i64 (j : Int), l] ∧ j ≤ cn ∧ Rdr g h' b (insLR j s2).2 ∧ SlF 87 7 InsF h' l (insLR j s2).1 fq ∧ OwnBlks h' out (blksR most i s1).1 fp ∧ Fresh h fq ∧ (fp ++ fq).Nodup ∧ KeptH h h' [b])
      (fun xs h' => cn - (vi (gv xs 0)).toNat) ⟨0, .slice none 0 0, [], rfl, Nat.zero_le _, k3, SlF.nil, ho3, (fun b hb => by cases hb), by simpa using hnd, hk03⟩ ?_
    rintro xs h4 J2 - ⟨j, l, fq, rfl, hj, k4, hL, ho4, hfq, hnq, hk4⟩ hJ2
    simp only [List.cons_append, List.nil_append]
    have hil := insLR_len j s2
    have nx : intOp .add .i64 (j : Int) 1 = ((j + 1 : Nat) : Int) := int_add_one (n := 1000000000) (by omega) (by omega)
    refine h_ite (fun hc2 => ?_) (fun hc2 => ?_)
    · replace hc2 : cmpOp .lss (j : Int) (cn : Int) = true := hc2
      rw [cmp_lss, decide_eq_true_eq] at hc2
      refine h_call0 (s46 k4) ?_
      rintro _ _ ⟨e4, rfl⟩
      have e4' := e4.symm
      subst e4'
      refine ⟨[.int .i64 (insLR j s2).2.2], ⟨⟨_, rfl⟩, trivial⟩, rfl, h_ite (fun hc3 => ?_) (fun hc3 => ?_)⟩
      · replace hc3 : cmpOp .eql (insLR j s2).2.2 0 = true := hc3
        rw [cmp_eql, decide_eq_true_eq] at hc3
        have hsn := insLR_snoc j s2
        rw [if_neg (by simpa using hc3)] at hsn
        simp only [List.cons_append, List.nil_append]
        refine h_call0 (Q := fun r h' => Rdr g h' b (insR (insLR j s2).2).2 ∧ KeptH h4 h' [b] ∧ ∃ q fp, r = .agg (insC (insR (insLR j s2).2).1 q).toArray ∧ InsF h' (insC (insR (insLR j s2).2).1 q) (insR (insLR j s2).2).1 fp ∧ Fresh h4 fp ∧ fp.Nodup) (s68 k4 (by omega)) ?_
        rintro _ h5 ⟨k5, hk5, q, f, rfl, hq, hf5, hn5⟩
        obtain ⟨x, hx⟩ : ∃ x, x = (insR (insLR j s2).2).1 := ⟨_, rfl⟩
        rw [← hx] at hq ⊢
        have hqf : Fits .sl q := by
          obtain ⟨w, ew, hw⟩ := hq
          have : q = w := by simp only [insC, List.cons.injEq] at ew; exact ew.2.2.2.2.2.2.1
          rw [this]; exact hw.row0.fit
        refine ⟨insC x q, insFit x q hqf, rfl, ?_⟩
        simp only [insC, List.cons_append, List.nil_append]
        have hL5 := hL.agree insF_good (hk5.agree (hL.live insF_good) (notb k hfq))
        have ho5 := ho4.agree blkF_good (hk5.agree (ho4.live blkF_good) (notb k hf))
        have hk05 := hk4.trans hk5
        have hf5' : Fresh h f := fun y hy => back hk4 k4.live (hf5 y hy)
        have dis : ∀ y ∈ fq, y ∉ f := fun y hy hyf => by
          have := hL.live insF_good y hy; rw [hf5 y hyf] at this; cases this
        have dis2 : ∀ y ∈ fp, y ∉ f := fun y hy hyf => by
          have := ho4.live blkF_good y hy; rw [hf5 y hyf] at this; cases this
        have hnq2 := List.nodup_append.1 hnq
        refine ⟨insC x q, 1, ⟨rfl, rfl⟩, app_slF insF_good (by omega) hL5 rfl hq (nodup_app hnq2.2.1 hn5 dis) zero46 (by omega) fun v' h6 fr g1 g2 g3 g4 => ?_⟩
        have hfr : Fresh h fr := fun y hy => by
          rcases g4 y hy with e | e | e
          · exact hfq y e
          · exact hf5' y e
          · exact back hk05 k5.live e
        show J2 [.int .i64 (intOp .add .i64 (j : Int) 1), v'] h6
        rw [nx]
        refine hJ2 _ _ ⟨j + 1, v', fr, rfl, by omega, ?_, ?_, ?_, hfr, ?_, kept_fresh hk05 g3 hfq⟩ ?_
        · rw [hsn]; exact Rdr.app k k5 g3 hfq
        · rw [hsn, ← hx]; exact g1
        · exact ho5.agree blkF_good (g3.agree (ho5.live blkF_good) (fun y hy hyq => hnq2.2.2 y hy y hyq rfl))
        · refine nodup_app hnd g2 fun y hy hyr => ?_
          rcases g4 y hyr with e | e | e
          · exact hnq2.2.2 y hy y e rfl
          · exact dis2 y hy e
          · have := ho5.live blkF_good y hy; rw [e] at this; cases this
        · show cn - ((((j + 1 : Nat) : Nat) : Int)).toNat < cn - ((j : Int)).toNat
          omega
      · replace hc3 : cmpOp .eql (insLR j s2).2.2 0 = false := hc3
        rw [cmp_eql, decide_eq_false_iff_not] at hc3
        have hsn := insLR_snoc j s2
        rw [if_pos hc3] at hsn
        show J2 [.int .i64 (intOp .add .i64 (j : Int) 1), l] h4
        rw [nx]
        refine hJ2 _ _ ⟨j + 1, l, fq, rfl, by omega, by rw [hsn]; exact k4, by rw [hsn]; exact hL, ho4, hfq, hnq, hk4⟩ ?_
        show cn - ((((j + 1 : Nat) : Nat) : Int)).toNat < cn - ((j : Int)).toNat
        omega
    · replace hc2 : cmpOp .lss (j : Int) (cn : Int) = false := hc2
      rw [cmp_lss, decide_eq_false_iff_not] at hc2
      have : j = cn := by omega
      subst this
      have eB : blkR most si = (⟨(insLR j s2).1, (endR (insLR j s2).2).1⟩, (endR (insLR j s2).2).2) := by
        unfold blkR; simp only [← hcd, ← hs2, Int.toNat_natCast]
      rw [eB] at hsnoc
      refine h_call0 (s69 k4 (by omega)) ?_
      rintro _ h5 ⟨rfl, k5, hk5⟩
      refine ⟨endC (endR (insLR j s2).2).1, endFit _, rfl, ?_⟩
      simp only [endC, List.cons_append, List.nil_append]
      refine h_call0 (s46 k5) ?_
      rintro _ _ ⟨e5, rfl⟩
      have e5' := e5.symm
      subst e5'
      refine ⟨[.int .i64 (endR (insLR j s2).2).2.2], ⟨⟨_, rfl⟩, trivial⟩, rfl, ?_⟩
      simp only [List.cons_append, List.nil_append]
      have hk05 := hk4.trans hk5
      refine h_ite (fun hc3 => ?_) (fun hc3 => ?_)
      · replace hc3 : cmpOp .neq (endR (insLR j s2).2).2.2 0 = true := hc3
        rw [cmp_neq, decide_eq_true_eq] at hc3
        rw [if_pos hc3] at hsnoc
        have hst := blksR_stop most hs00 (m := i + 1) (by rw [hsnoc]; exact hc3) (m - (i + 1))
        have eM : blksR most m s1 = ([], (endR (insLR j s2).2).2) := by
          rcases hst with e | e
          · rw [show m = i + 1 + (m - (i + 1)) by omega, e, hsnoc]
          · rw [show m = i + 1 by omega, hsnoc]
        rw [eM]
        exact ⟨rfl, k5, hk05, [], SlF.nil, (fun b hb => by cases hb), List.nodup_nil⟩
      · replace hc3 : cmpOp .neq (endR (insLR j s2).2).2.2 0 = false := hc3
        rw [cmp_neq, decide_eq_false_iff_not, Decidable.not_not] at hc3
        rw [if_neg (by simpa using hc3)] at hsnoc
        have hL5 := hL.agree insF_good (hk5.agree (hL.live insF_good) (notb k hfq))
        have ho5 := ho4.agree blkF_good (hk5.agree (ho4.live blkF_good) (notb k hf))
        refine ⟨l :: endC (endR (insLR j s2).2).1, 1, ⟨rfl, rfl⟩, app_slF blkF_good (x := ⟨(insLR j s2).1, (endR (insLR j s2).2).1⟩) (f := fq) (by omega) ho5 rfl ⟨l, rfl, hL5⟩ hnq zero41 (by omega) fun v' h6 fr g1 g2 g3 g4 => ?_⟩
        have hfr : Fresh h fr := fun y hy => by
          rcases g4 y hy with e | e | e
          · exact hf y e
          · exact hfq y e
          · exact back hk05 k5.live e
        show J [v', .int .i64 (intOp .add .i64 (i : Int) 1)] h6
        rw [int_add_one (n := 100) (by omega) (by omega)]
        refine hJ _ _ ⟨i + 1, v', fr, rfl, by omega, ?_, ?_, fun _ => ?_, hfr, g2, kept_fresh hk05 g3 hf⟩ ?_
        · rw [hsnoc]; exact Rdr.app k k5 g3 hf
        · rw [hsnoc]; exact g1
        · rw [hsnoc]; exact hc3
        · show m - ((((i + 1 : Nat) : Nat) : Int)).toNat < m - ((i : Int)).toNat
          omega
  · replace hc : cmpOp .lss (i : Int) (m : Int) = false := hc
    rw [cmp_lss, decide_eq_false_iff_not] at hc
    have : i = m := by omega
    subst this
    exact ⟨rfl, k2, hk2, fp, ho, hf, hnd⟩
/-- What a function's bytes are read as. -/
def readF (l : List Int) : (Int × Int × List Blk) × Int :=
  let p := belowR 4096 (l, 0)
  let n := belowR 4096 p.2
  let bs := readBs 32 n.2
  if endS bs.2 ≠ 0 then ((0, 0, []), endS bs.2) else if (checkM p.1 n.1 bs.1).1 ≠ 0 then ((0, 0, []), 30) else ((p.1, n.1, bs.1), 0)
def readC (l : List Int) : (Int × Int × Int × List Blk) × Int :=
  let p := belowR 4096 (l, 0)
  let r := belowR 4096 p.2
  let s := belowR 4096 r.2
  let bs := readBs 400 s.2
  if endS bs.2 ≠ 0 then ((0, 0, 0, []), endS bs.2) else if (mcheckM p.1 r.1 s.1 bs.1).1 ≠ 0 then ((0, 0, 0, []), 30) else ((p.1, r.1, s.1, bs.1), 0)
theorem kept_new {h h1 h2 : H} {b : Nat} (hl : h.le h1) (hb : h b = none) (hk : KeptH h1 h2 [b]) : h.le h2 := hk.le hl (fun x hx => by rw [List.mem_singleton] at hx; subst hx; exact hb)
theorem s28 {v : Value} {l : List Int} (hv : BytesAt h v l) (hl : l.length ≤ 1000000000) :
    CallsA Try.prog 28 (fun _ => [v]) [] h (Ret fun r h' => h.le h' ∧ ∃ u fp, r = .tuple #[.agg #[.int .i64 (readF l).1.1, .int .i64 (readF l).1.2.1, u], .int .i64 (readF l).2] ∧ OwnBlks h' u (readF l).1.2.2 fp ∧ Fresh h fp ∧ fp.Nodup) := by
  refine c28 (G := [v]) ⟨hv.fit, trivial⟩ ?_
  have bl := fun n s => belowR_len n s
  refine h_call0 (s44 hv hl) ?_
  rintro _ h1 ⟨b, g, rfl, hlg, hb, k1⟩
  have hl1 : h.le h1 := hlg.trans k1.2.1
  refine ⟨[ptrB b], ⟨⟨_, rfl⟩, trivial⟩, rfl, ?_⟩
  simp only [List.cons_append, List.nil_append]
  refine below_step (n := 4096) rfl rfl (by omega) (by omega) k1 hl fun h2 k2 hk2 => ?_
  simp only [List.cons_append, List.nil_append]
  have t0 : ((l, 0) : RS).1.length = l.length := rfl
  have t1 := bl 4096 (l, 0)
  have t2 := bl 4096 (belowR 4096 (l, 0)).2
  refine below_step (n := 4096) rfl rfl (by omega) (by omega) k2 (by omega) fun h3 k3 hk3 => ?_
  simp only [List.cons_append, List.nil_append]
  obtain ⟨p, hp⟩ : ∃ p, p = belowR 4096 (l, 0) := ⟨_, rfl⟩
  obtain ⟨n, hn⟩ : ∃ n, n = belowR 4096 p.2 := ⟨_, rfl⟩
  rw [← hp] at k3 t1 t2 ⊢
  rw [← hn] at k3 t2 ⊢
  refine h_call0 (s51 k3 (by omega) (most := 32) (by omega)) ?_
  rintro u h4 ⟨k4, hk4, fp, hu, hf, hnd⟩
  refine ⟨[u], ⟨hu.at.fit, trivial⟩, rfl, ?_⟩
  simp only [List.cons_append, List.nil_append]
  obtain ⟨bs, hbs⟩ : ∃ bs, bs = readBs 32 n.2 := ⟨_, rfl⟩
  rw [← hbs] at k4 hu
  have eF : readF l = if endS bs.2 ≠ 0 then ((0, 0, []), endS bs.2) else if (checkM p.1 n.1 bs.1).1 ≠ 0 then ((0, 0, []), 30) else ((p.1, n.1, bs.1), 0) := by
    unfold readF; simp only [← hp, ← hn, ← hbs]
  have hk14 := (hk2.trans hk3).trans hk4
  refine h_call0 (s47 k4) ?_
  rintro _ h5 ⟨rfl, hk5⟩
  have hk15 := hk14.trans hk5
  have hl5 := kept_new hl1 hb hk15
  have hf0 : Fresh h fp := fun x hx => H.le_none hl1 (back (hk2.trans hk3) k3.live (hf x hx))
  have hbf : ∀ x ∈ fp, x ∉ [b] := fun x hx hxb => by
    rw [List.mem_singleton] at hxb; subst hxb
    have := k3.live; rw [hf x hx] at this; cases this
  have hu5 := hu.agree blkF_good (hk5.agree (hu.live blkF_good) hbf)
  refine ⟨[.int .i64 (endS bs.2)], ⟨⟨_, rfl⟩, trivial⟩, rfl, ?_⟩
  simp only [List.cons_append, List.nil_append]
  refine h_ite (fun hc => ?_) (fun hc => ?_)
  · replace hc : cmpOp .neq (endS bs.2) 0 = true := hc
    rw [cmp_neq, decide_eq_true_eq] at hc
    rw [if_pos hc] at eF
    rw [eF]
    exact ⟨rfl, hl5, .slice none 0 0, [], rfl, SlF.nil, (fun b hb => by cases hb), List.nodup_nil⟩
  · replace hc : cmpOp .neq (endS bs.2) 0 = false := hc
    rw [cmp_neq, decide_eq_false_iff_not, Decidable.not_not] at hc
    rw [if_neg (by simpa using hc)] at eF
    refine h_call0 (s35 p.1 n.1 u bs.1 (OwnBlks.at hu5)) ?_
    rintro _ h6 ⟨hl6, rfl⟩
    refine ⟨faultG (checkM p.1 n.1 bs.1), faultG_fit _, rfl, ?_⟩
    simp only [faultG, List.cons_append, List.nil_append]
    refine h_ite (fun hc2 => ?_) (fun hc2 => ?_)
    · replace hc2 : cmpOp .neq (checkM p.1 n.1 bs.1).1 0 = true := hc2
      rw [cmp_neq, decide_eq_true_eq] at hc2
      rw [if_pos hc2] at eF
      rw [eF]
      exact ⟨rfl, hl5.trans hl6, .slice none 0 0, [], rfl, SlF.nil, (fun b hb => by cases hb), List.nodup_nil⟩
    · replace hc2 : cmpOp .neq (checkM p.1 n.1 bs.1).1 0 = false := hc2
      rw [cmp_neq, decide_eq_false_iff_not, Decidable.not_not] at hc2
      rw [if_neg (by simpa using hc2)] at eF
      rw [eF]
      exact ⟨rfl, hl5.trans hl6, u, fp, rfl, hu5.agree blkF_good (le_agree hl6 (hu5.live blkF_good)), hf0, hnd⟩
theorem s30 {v : Value} {l : List Int} (hv : BytesAt h v l) (hl : l.length ≤ 1000000000) :
    CallsA Try.prog 30 (fun _ => [v]) [] h (Ret fun r h' => h.le h' ∧ ∃ u fp, r = .tuple #[.agg #[.int .i64 (readC l).1.1, .int .i64 (readC l).1.2.1, .int .i64 (readC l).1.2.2.1, u], .int .i64 (readC l).2] ∧ OwnBlks h' u (readC l).1.2.2.2 fp ∧ Fresh h fp ∧ fp.Nodup) := by
  refine c30 (G := [v]) ⟨hv.fit, trivial⟩ ?_
  have bl := fun n s => belowR_len n s
  refine h_call0 (s44 hv hl) ?_
  rintro _ h1 ⟨b, g, rfl, hlg, hb, k1⟩
  have hl1 : h.le h1 := hlg.trans k1.2.1
  refine ⟨[ptrB b], ⟨⟨_, rfl⟩, trivial⟩, rfl, ?_⟩
  simp only [List.cons_append, List.nil_append]
  refine below_step (n := 4096) rfl rfl (by omega) (by omega) k1 hl fun h2 k2 hk2 => ?_
  simp only [List.cons_append, List.nil_append]
  have t0 : ((l, 0) : RS).1.length = l.length := rfl
  have t1 := bl 4096 (l, 0)
  have t2 := bl 4096 (belowR 4096 (l, 0)).2
  have t3 := bl 4096 (belowR 4096 (belowR 4096 (l, 0)).2).2
  refine below_step (n := 4096) rfl rfl (by omega) (by omega) k2 (by omega) fun h3 k3 hk3 => ?_
  simp only [List.cons_append, List.nil_append]
  refine below_step (n := 4096) rfl rfl (by omega) (by omega) k3 (by omega) fun h3' k3' hk3' => ?_
  simp only [List.cons_append, List.nil_append]
  obtain ⟨p, hp⟩ : ∃ p, p = belowR 4096 (l, 0) := ⟨_, rfl⟩
  obtain ⟨r, hr⟩ : ∃ r, r = belowR 4096 p.2 := ⟨_, rfl⟩
  obtain ⟨n, hn⟩ : ∃ n, n = belowR 4096 r.2 := ⟨_, rfl⟩
  rw [← hp] at k3' t1 t2 t3 ⊢
  rw [← hr] at k3' t2 t3 ⊢
  rw [← hn] at k3' t3 ⊢
  refine h_call0 (s51 k3' (by omega) (most := 400) (by omega)) ?_
  rintro u h4 ⟨k4, hk4, fp, hu, hf, hnd⟩
  refine ⟨[u], ⟨hu.at.fit, trivial⟩, rfl, ?_⟩
  simp only [List.cons_append, List.nil_append]
  obtain ⟨bs, hbs⟩ : ∃ bs, bs = readBs 400 n.2 := ⟨_, rfl⟩
  rw [← hbs] at k4 hu
  have eF : readC l = if endS bs.2 ≠ 0 then ((0, 0, 0, []), endS bs.2) else if (mcheckM p.1 r.1 n.1 bs.1).1 ≠ 0 then ((0, 0, 0, []), 30) else ((p.1, r.1, n.1, bs.1), 0) := by
    unfold readC; simp only [← hp, ← hr, ← hn, ← hbs]
  have hk13 := (hk2.trans hk3).trans hk3'
  have hk14 := hk13.trans hk4
  refine h_call0 (s47 k4) ?_
  rintro _ h5 ⟨rfl, hk5⟩
  have hk15 := hk14.trans hk5
  have hl5 := kept_new hl1 hb hk15
  have hf0 : Fresh h fp := fun x hx => H.le_none hl1 (back hk13 k3'.live (hf x hx))
  have hbf : ∀ x ∈ fp, x ∉ [b] := fun x hx hxb => by
    rw [List.mem_singleton] at hxb; subst hxb
    have := k3'.live; rw [hf x hx] at this; cases this
  have hu5 := hu.agree blkF_good (hk5.agree (hu.live blkF_good) hbf)
  refine ⟨[.int .i64 (endS bs.2)], ⟨⟨_, rfl⟩, trivial⟩, rfl, ?_⟩
  simp only [List.cons_append, List.nil_append]
  refine h_ite (fun hc => ?_) (fun hc => ?_)
  · replace hc : cmpOp .neq (endS bs.2) 0 = true := hc
    rw [cmp_neq, decide_eq_true_eq] at hc
    rw [if_pos hc] at eF
    rw [eF]
    exact ⟨rfl, hl5, .slice none 0 0, [], rfl, SlF.nil, (fun b hb => by cases hb), List.nodup_nil⟩
  · replace hc : cmpOp .neq (endS bs.2) 0 = false := hc
    rw [cmp_neq, decide_eq_false_iff_not, Decidable.not_not] at hc
    rw [if_neg (by simpa using hc)] at eF
    refine h_call0 (s43 p.1 r.1 n.1 u bs.1 (OwnBlks.at hu5)) ?_
    rintro _ h6 ⟨hl6, rfl⟩
    refine ⟨faultG (mcheckM p.1 r.1 n.1 bs.1), faultG_fit _, rfl, ?_⟩
    simp only [faultG, List.cons_append, List.nil_append]
    refine h_ite (fun hc2 => ?_) (fun hc2 => ?_)
    · replace hc2 : cmpOp .neq (mcheckM p.1 r.1 n.1 bs.1).1 0 = true := hc2
      rw [cmp_neq, decide_eq_true_eq] at hc2
      rw [if_pos hc2] at eF
      rw [eF]
      exact ⟨rfl, hl5.trans hl6, .slice none 0 0, [], rfl, SlF.nil, (fun b hb => by cases hb), List.nodup_nil⟩
    · replace hc2 : cmpOp .neq (mcheckM p.1 r.1 n.1 bs.1).1 0 = false := hc2
      rw [cmp_neq, decide_eq_false_iff_not, Decidable.not_not] at hc2
      rw [if_neg (by simpa using hc2)] at eF
      rw [eF]
      exact ⟨rfl, hl5.trans hl6, u, fp, rfl, hu5.agree blkF_good (le_agree hl6 (hu5.live blkF_good)), hf0, hnd⟩
end
end Go.Proofs.Ythnoplfjcdkacaa
