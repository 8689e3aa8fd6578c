/-
  The law ExecRefuses answers true. Conditions: none.
-/
import Derived.Test.YtodeffobplpcnaaR2N
import Derived.Test.YtodeffobplpcnaaPc
import Derived.Test.YtodeffobplpcnaaRows
set_option linter.unusedVariables false
set_option linter.unusedSimpArgs false
namespace Go.Proofs.Ytodeffobplpcnaa
open Go Go.ChangeShapes Go.WideShapes Go.ChangeAt Go.RowKit

set_option maxRecDepth 20000 in
theorem s12 {h : H} {fbv vs av mv nv : Value} {cp cr cs p0 p1 p2 fuel tb tk tf tn : Int} {fbs : List Blk} {l args mem ans : List Int} (hfb : BlksAt h fbv fbs) (hs : BytesAt h vs l) (h0 : 0 ≤ p0) (h1 : 0 ≤ p1) (h2 : 0 ≤ p2) (ha : IntsAt h av args) (hm : IntsAt h mv mem) (hn : IntsAt h nv ans) (hb : 0 ≤ tb ∧ tb ≤ 255) (hk : 0 ≤ tk ∧ tk ≤ 255) :
    CallsA Try.prog 12 (fun _ => [.agg #[.int .i64 cp, .int .i64 cr, .int .i64 cs, fbv], .agg #[.int .u8 p0, .int .u8 p1, .int .u8 p2, vs], .agg #[av, mv, nv, .int .i64 fuel], .int .u8 tb, .int .u8 tk, .int .u8 tf, .int .i64 tn]) [] h (Ret fun r h' => h.le h' ∧ r = .bool true) := by
  refine c12 (G := [.int .i64 cp, .int .i64 cr, .int .i64 cs, fbv, .int .u8 p0, .int .u8 p1, .int .u8 p2, vs, av, mv, nv, .int .i64 fuel, .int .u8 tb, .int .u8 tk, .int .u8 tf, .int .i64 tn]) ⟨⟨_, rfl⟩, ⟨_, rfl⟩, ⟨_, rfl⟩, hfb.fit, ⟨_, rfl⟩, ⟨_, rfl⟩, ⟨_, rfl⟩, hs.fit, ha.fit, hm.fit, hn.fit, ⟨_, rfl⟩, ⟨_, rfl⟩, ⟨_, rfl⟩, ⟨_, rfl⟩, ⟨_, rfl⟩, trivial⟩ ?_
  refine h_call0 s29 ?_
  rintro _ g1 ⟨hl1, rfl⟩
  refine ⟨[.bool true], ⟨⟨_, rfl⟩, trivial⟩, rfl, h_ite (fun hc => by cases hc) (fun _ => h_call0 (s22 (SlAt.le blkC_mono hl1 hfb)) ?_)⟩
  rintro _ _ ⟨rfl, lo, rfl, -⟩
  refine ⟨[.bool lo], ⟨⟨_, rfl⟩, trivial⟩, rfl, h_ite (fun _ => ⟨rfl, hl1, rfl⟩) (fun _ => h_call0 (s26 (p0 := p0) (p1 := p1) (p2 := p2) (rg := tb) (sl := tk) (hs.le hl1) (SlAt.nil : BytesAt _ (.slice none 0 0) []) h0 h1 h2 hb hk) ?_)⟩
  rename_i g1
  rintro _ g2 ⟨u, B0, fq, rfl, M, -⟩
  have hN := madeN_range h2
  have hsm := M.small hN
  have hl12 := M.kept.le_nil
  have hl2 := hl1.trans hl12
  refine ⟨[.int .i64 (madeP p0), .int .i64 (mR tb), .int .i64 (mS (madeP p0) tk), u], ⟨⟨_, rfl⟩, ⟨_, rfl⟩, ⟨_, rfl⟩, M.own.at.fit, trivial⟩, rfl, ?_⟩
  simp only [List.cons_append, List.nil_append]
  refine h_call0 (Q := fun r h' => r = .tuple #[] ∧ ∃ bs' fp', OwnBlks h' u bs' fp' ∧ fp'.Nodup ∧ KeptH g2 h' fq ∧ ∀ b ∈ fp', b ∈ fq ∨ g2 b = none) (s31 (fd := tf) (n := tn) M.own M.nd hsm hb hk) ?_
  rintro r g2' ⟨rfl, B, fp', hu, -, hk4, hf4⟩
  have hl2' : h.le g2' := hk4.le hl2 (fun b hb => H.le_none hl1 (M.fresh b hb))
  refine ⟨[], trivial, rfl, ?_⟩
  generalize hPe : madeP p0 = P
  generalize hRe : mR tb = R
  generalize hSe : mS P tk = S
  simp only [List.cons_append, List.nil_append, List.append_nil]
  refine h_alloc [.int .i64 cp, .int .i64 cr, .int .i64 cs, fbv, .int .i64 P, .int .i64 R, .int .i64 S, u] rfl fun b hbn => ?_
  have hl23 := H.le_put (o := .cells [Value.int .i64 cp, .int .i64 cr, .int .i64 cs, fbv, .int .i64 P, .int .i64 R, .int .i64 S, u].toArray 54 (0, 0)) hbn
  have r0 : Reads (g2'.put b (.cells [Value.int .i64 cp, .int .i64 cr, .int .i64 cs, fbv, .int .i64 P, .int .i64 R, .int .i64 S, u].toArray 54 (0, 0))) (Addr.add ⟨b, 0, none⟩ 0) [.int .i64 cp, .int .i64 cr, .int .i64 cs, fbv] := Reads.put (by intro j v hj; rcases j with _ | _ | _ | _ | j <;> simp_all)
  have r3 : Reads (g2'.put b (.cells [Value.int .i64 cp, .int .i64 cr, .int .i64 cs, fbv, .int .i64 P, .int .i64 R, .int .i64 S, u].toArray 54 (0, 0))) (Addr.add ⟨b, 0, none⟩ 4) [.int .i64 P, .int .i64 R, .int .i64 S, u] := Reads.put (by intro j v hj; rcases j with _ | _ | _ | _ | j <;> simp_all)
  generalize g2'.put b (.cells [Value.int .i64 cp, .int .i64 cr, .int .i64 cs, fbv, .int .i64 P, .int .i64 R, .int .i64 S, u].toArray 54 (0, 0)) = g3 at hl23 r0 r3 ⊢
  have hl3 := hl2'.trans hl23
  have el : ∀ i : Nat, i < 2 → ∃ (p r s : Int) (v : Value) (bs : List Blk), BlksAt g3 v bs ∧ Reads g3 (Addr.add ⟨b, 0, none⟩ (i * 4)) [.int .i64 p, .int .i64 r, .int .i64 s, v] := fun i hi => by
    rcases (show i = 0 ∨ i = 1 by omega) with rfl | rfl
    · exact ⟨cp, cr, cs, fbv, fbs, SlAt.le blkC_mono hl3 hfb, r0⟩
    · exact ⟨P, R, S, u, B, SlAt.le blkC_mono hl23 hu.at, r3⟩
  clear r0 r3
  obtain ⟨A, hA⟩ : ∃ A, A = [Value.int .i64 cp, .int .i64 cr, .int .i64 cs, fbv, .int .u8 p0, .int .u8 p1, .int .u8 p2, vs, av, mv, nv, .int .i64 fuel, .int .u8 tb, .int .u8 tk, .int .u8 tf, .int .i64 tn, .bool true, .bool lo, .int .i64 P, .int .i64 R, .int .i64 S, u, .slice (some ⟨b, 0, none⟩) 2 2] := ⟨_, rfl⟩
  have eA : [Value.int .i64 cp, .int .i64 cr, .int .i64 cs, fbv, .int .u8 p0, .int .u8 p1, .int .u8 p2, vs, av, mv, nv, .int .i64 fuel, .int .u8 tb, .int .u8 tk, .int .u8 tf, .int .i64 tn, .bool true, .bool lo, .int .i64 P, .int .i64 R, .int .i64 S, u, NK.val b (.lsl 2)] = A := by rw [hA]; rfl
  simp only [List.cons_append, List.nil_append]
  rw [eA]
  have hAl : A.length = 23 := by rw [hA]; rfl
  have a7 : ∀ D : List Value, gv (A ++ D) 8 = av ∧ gv (A ++ D) 9 = mv ∧ gv (A ++ D) 10 = nv ∧ gv (A ++ D) 11 = .int .i64 fuel ∧ gv (A ++ D) 22 = .slice (some ⟨b, 0, none⟩) 2 2 := fun D => by
    refine ⟨?_, ?_, ?_, ?_, ?_⟩ <;> (rw [gv_of_lt (by omega), hA]; rfl)
  have ia := ha.le hl3
  have im := hm.le hl3
  have inn := hn.le hl3
  clear eA hA
  refine h_range (n := 2) (fun i h' => g3.le h') (by have := (a7 []).2.2.2.2; rw [List.append_nil] at this; rw [this]; rfl) (by omega) hAl (by omega) (fun _ _ e => e) ?_ ?_
  · rintro i h' J hi hle hJ
    obtain ⟨p, n, s, v, bs, hb, hr⟩ := el i hi
    have hb' := SlAt.le blkC_mono hle hb
    have ia' := ia.le hle
    have im' := im.le hle
    have in' := inn.le hle
    refine h_load [.int .i64 p, .int .i64 n, .int .i64 s, v] ⟨⟨_, rfl⟩, ⟨_, rfl⟩, ⟨_, rfl⟩, hb.fit, trivial⟩ (fun _ => ?_) ?_
    · simp only [PE.den, X.den]
      rw [(a7 _).2.2.2.2, gv_at (j := 0) (by omega)]; exact hr.le hle
    have e0 : A ++ [Value.int .i64 (i : Int)] ++ [.int .i64 p, .int .i64 n, .int .i64 s, v] = A ++ [.int .i64 (i : Int), .int .i64 p, .int .i64 n, .int .i64 s, v] := by simp
    rw [e0]
    have g20 : ∀ (D : List Value) (m : Nat), gv (A ++ D) (23 + m) = gv D m := fun D m => gv_at (by omega)
    -- the next round
    have nxt : ∀ (D : List Value) (h'' : H), h'.le h'' → J (SV.denL (A ++ (.int .i64 (i : Int) :: D)) dE [(.int .i64 (.op .add .i64 (.var 23) (.lit 1)))]) h'' := fun D h'' hl => by
      simp only [SV.denL, SV.den, X.den]
      rw [g20 _ 0]
      exact hJ _ (hle.trans hl)
    refine h_call0 (Q := fun r h'' => h'.le h'' ∧ r = faultV (mcheckM p n s bs)) ?_ ?_
    · have := s32 p n s v bs hb'
      simp only [SV.denL, SV.den, X.den]
      rw [g20 _ 1, g20 _ 2, g20 _ 3, g20 _ 4]
      exact this
    rintro _ h2 ⟨hl2, rfl⟩
    refine ⟨faultG (mcheckM p n s bs), faultG_fit _, rfl, ?_⟩
    have hb2 := SlAt.le blkC_mono hl2 hb'
    have ia2 := ia'.le hl2
    have im2 := im'.le hl2
    have in2 := in'.le hl2
    obtain ⟨F, hF⟩ : ∃ F, F = mcheckM p n s bs := ⟨_, rfl⟩
    rw [← hF]
    have e1 : A ++ [Value.int .i64 (i : Int), .int .i64 p, .int .i64 n, .int .i64 s, v] ++ faultG F = A ++ [.int .i64 (i : Int), .int .i64 p, .int .i64 n, .int .i64 s, v, .int .i64 F.1, .int .i64 F.2.1, .int .i64 F.2.2] := by simp [faultG]
    rw [e1]
    have hin : ∀ D : List Value, (fun e : Nat → CE => SV.denL (A ++ (.int .i64 (i : Int) :: .int .i64 p :: .int .i64 n :: .int .i64 s :: v :: D)) (fun j => e (kIdx [] j)) [(.agg [(.int .i64 (.var 24)), (.int .i64 (.var 25)), (.int .i64 (.var 26)), (.val 27)]), (.agg [(.val 8), (.val 9), (.val 10), (.int .i64 (.var 11))])]) = fun _ => [Value.agg #[.int .i64 p, .int .i64 n, .int .i64 s, v], .agg #[av, mv, nv, .int .i64 fuel]] := fun D => by
      funext e
      obtain ⟨x7, x8, x9, x10, -⟩ := a7 (.int .i64 (i : Int) :: .int .i64 p :: .int .i64 n :: .int .i64 s :: v :: D)
      simp only [SV.denL, SV.den, X.den]
      rw [g20 _ 1, g20 _ 2, g20 _ 3, g20 _ 4, x7, x8, x9, x10]; rfl
    refine h_ite (fun hc => ?_) (fun hc => ?_)
    · replace hc := (eq_cond (m := 0) (g20 _ 5)).symm.trans hc
      rw [decide_eq_true_eq, hF] at hc
      refine h_call0 (Q := fun r h'' => h'' = h2 ∧ r = .int .i64 (inputM p args.length fuel)) ?_ ?_
      · have := s24 (p := p) (fuel := fuel) ia2 im2 in2
        obtain ⟨x7, x8, x9, x10, -⟩ := a7 [Value.int .i64 (i : Int), .int .i64 p, .int .i64 n, .int .i64 s, v, .int .i64 F.1, .int .i64 F.2.1, .int .i64 F.2.2]
        simp only [SV.denL, SV.den, X.den]
        rw [g20 _ 1, x7, x8, x9, x10]
        exact this
      rintro _ _ ⟨rfl, rfl⟩
      rename_i h2
      refine ⟨[.int .i64 (inputM p args.length fuel)], ⟨⟨_, rfl⟩, trivial⟩, rfl, ?_⟩
      obtain ⟨I, hI⟩ : ∃ I, I = inputM p args.length fuel := ⟨_, rfl⟩
      rw [← hI]
      have e2 : A ++ [Value.int .i64 (i : Int), .int .i64 p, .int .i64 n, .int .i64 s, v, .int .i64 F.1, .int .i64 F.2.1, .int .i64 F.2.2] ++ [.int .i64 I] = A ++ [.int .i64 (i : Int), .int .i64 p, .int .i64 n, .int .i64 s, v, .int .i64 F.1, .int .i64 F.2.1, .int .i64 F.2.2, .int .i64 I] := by simp
      rw [e2]
      obtain ⟨A2, hA2⟩ : ∃ A2, A2 = A ++ [.int .i64 (i : Int), .int .i64 p, .int .i64 n, .int .i64 s, v, .int .i64 F.1, .int .i64 F.2.1, .int .i64 F.2.2, .int .i64 I] := ⟨_, rfl⟩
      have hA2l : A2.length = 32 := by rw [hA2]; simp [hAl]
      have b27 : ∀ D : List Value, gv (A2 ++ D) 31 = .int .i64 I := fun D => by rw [hA2, List.append_assoc]; exact g20 _ 8
      have bn : ∀ (D : List Value) (h'' : H), h2.le h'' → J (SV.denL (A2 ++ D) dE [(.int .i64 (.op .add .i64 (.var 23) (.lit 1)))]) h'' := fun D h'' hl => by
        rw [hA2, List.append_assoc]; exact nxt _ _ (hl2.trans hl)
      refine h_ite (fun hd => ?_) (fun hd => ?_)
      · show J _ _
        have := bn [] h2 (fun _ _ e => e)
        rw [List.append_nil, hA2] at this; exact this
      replace hd := (over_cond (c := I) (f := fuel) (g20 _ 8) (a7 _).2.2.2.1).symm.trans hd
      refine h_callO2 (Q := fun t e h'' => h2.le h'' ∧ CallsOk t ∧ ExecSpec p n s bs args mem ans fuel e t) ?_ ?_
      · have := s30 (p := p) (r := n) (s := s) (fuel := fuel) hb2 ia2 im2 in2
        rw [hin]
        exact this.post fun r h' q => q
      rw [← hA2]
      rintro t e cv h3 m1 c1 ⟨hl3', hco, hsp⟩
      have f96 := gOe (A := A2) (B := [.int .i64 e]) (cv := cv) (j := 0) hA2l m1
      by_cases hI0 : I = 0
      · obtain ⟨rfl, hrun⟩ := hsp.good hc (hI.symm.trans hI0)
        obtain ⟨N, S', rfl, rfl, q1, q2, q3, q3b, q3c, q4, q5, q6, q7, q8⟩ := exec_parts hc (hI.symm.trans hI0)
        have hfu : fuel ≤ 10000 := by rw [hI0] at hd; simp at hd; exact hd
        refine iteT (same_true (c := 0) f96 (by rw [b27, hI0])) (iteF ((neq_lit (b27 _)).trans (by rw [hI0]; rfl)) (iteT (by rw [eq_cond (b27 _), hI0]; rfl) ?_))
        refine h_callO (Q := fun t' h' => h3.le h' ∧ SameO t t') ?_ ?_
        · have := s20 (R := N) (S := S') (first := N) (fuel := fuel) (SlAt.le blkC_mono hl3' hb2) (ia2.le hl3') (im2.le hl3') (in2.le hl3') q6 q7 (by omega) (by omega) (by omega) (by omega)
          have y := a7 (.int .i64 (i : Int) :: .int .i64 p :: .int .i64 (N : Int) :: .int .i64 (S' : Int) :: v :: .int .i64 F.1 :: .int .i64 F.2.1 :: .int .i64 F.2.2 :: .int .i64 I :: (outC t cv ++ [.int .i64 0]))
          obtain ⟨x7, x8, x9, x10, -⟩ := y
          have eA2 : A2 ++ (outC t cv ++ [.int .i64 0]) = A ++ (.int .i64 (i : Int) :: .int .i64 p :: .int .i64 (N : Int) :: .int .i64 (S' : Int) :: v :: .int .i64 F.1 :: .int .i64 F.2.1 :: .int .i64 F.2.2 :: .int .i64 I :: (outC t cv ++ [.int .i64 0])) := by rw [hA2]; simp
          rw [eA2]
          simp only [SV.denL, SV.den, X.den]
          rw [g20 _ 2, g20 _ 3, g20 _ 4, x7, x8, x9, x10]
          refine this.post fun r h' ⟨k1, t', k2, k3⟩ => ⟨t', k3.at_, k1.le_nil, ?_⟩
          rw [Int.toNat_natCast, Int.toNat_natCast] at hrun
          rw [hrun.same k2]; exact ⟨rfl, rfl, rfl, rfl, rfl⟩
        rintro t' cv' h4 m2 c2 ⟨hl4, hso⟩
        have eG : A2 ++ (outC t cv ++ [.int .i64 0]) ++ outC t' cv' = A2 ++ (outC t cv ++ ([.int .i64 0] ++ (outC t' cv' ++ []))) := by simp
        refine h_same (A := A2) (M := [.int .i64 0]) (D := []) eG m1 m2 (SlAt.le callC_mono hl4 c1) c2 hso hco (by rw [hA2l]; rfl) (by rw [hA2l]; rfl) ?_
        have hGl : (A2 ++ (outC t cv ++ [Value.int .i64 0]) ++ outC t' cv').length = 169 := by simp [hA2l, outC_len m1, outC_len m2]
        refine iteF (not_true (by rw [gv_at (j := 0) (by omega)]; rfl)) ?_
        show J _ _
        have := bn ((outC t cv ++ [.int .i64 0]) ++ outC t' cv' ++ [.bool true]) h4 (hl3'.trans hl4)
        simpa [List.append_assoc] using this
      · obtain ⟨rfl, ht⟩ := hsp.bad2 hc (by rw [← hI]; exact hI0)
        rw [← hI] at f96
        rw [← hI]
        refine iteT (same_true (c := I) f96 (b27 _)) (iteT ((neq_lit (b27 _)).trans (by simp [hI0])) ?_)
        refine h_sameZ (A := A2) (D := [.int .i64 I]) rfl m1 c1 ht (by rw [hA2l]; rfl) rfl ?_
        have hGl : (A2 ++ (outC t cv ++ [Value.int .i64 I])).length = 101 := by simp [hA2l, outC_len m1]
        refine iteT (var_true (by rw [gv_at (j := 0) (by omega)]; rfl)) (iteF ?_ ?_)
        · rw [List.append_assoc, eq_cond (b27 _)]; simp [hI0]
        · show J _ _
          rw [List.append_assoc]
          exact bn _ h3 hl3'
    · replace hc := (eq_cond (m := 0) (g20 _ 5)).symm.trans hc
      rw [decide_eq_false_iff_not, hF] at hc
      refine h_callO2 (Q := fun t e h'' => h2.le h'' ∧ CallsOk t ∧ ExecSpec p n s bs args mem ans fuel e t) ?_ ?_
      · have := s30 (p := p) (r := n) (s := s) (fuel := fuel) hb2 ia2 im2 in2
        rw [hin]
        exact this.post fun r h' q => q
      obtain ⟨A2, hA2⟩ : ∃ A2, A2 = A ++ [.int .i64 (i : Int), .int .i64 p, .int .i64 n, .int .i64 s, v, .int .i64 F.1, .int .i64 F.2.1, .int .i64 F.2.2] := ⟨_, rfl⟩
      have hA2l : A2.length = 31 := by rw [hA2]; simp [hAl]
      have bn : ∀ (D : List Value) (h'' : H), h2.le h'' → J (SV.denL (A2 ++ D) dE [(.int .i64 (.op .add .i64 (.var 23) (.lit 1)))]) h'' := fun D h'' hl => by
        rw [hA2, List.append_assoc]; exact nxt _ _ (hl2.trans hl)
      rw [← hA2]
      rintro t e cv h3 m1 c1 ⟨hl3', hco, hsp⟩
      obtain ⟨rfl, ht⟩ := hsp.bad hc
      have f95 := gOe (A := A2) (B := [.int .i64 30]) (cv := cv) (j := 0) hA2l m1
      refine iteT (same_lit f95) ?_
      refine h_sameZ (A := A2) (D := [.int .i64 30]) rfl m1 c1 ht (by rw [hA2l]; rfl) rfl ?_
      have hGl : (A2 ++ (outC t cv ++ [Value.int .i64 30])).length = 100 := by simp [hA2l, outC_len m1]
      refine iteF (notor_true (by rw [gv_at (j := 0) (by omega)]; rfl)) ?_
      show J _ _
      rw [List.append_assoc]
      exact bn _ h3 hl3'
  · rintro h' J hle
    exact ⟨rfl, hl3.trans hle, rfl⟩
namespace execRefuses
theorem own : ownKnob Try.prog.godebug = none := by kernel_rfl
set_option maxRecDepth 100000 in
theorem laidOut : laidOutB Try.prog = true := by kernel_rfl
set_option maxRecDepth 100000 in
theorem contract (H : Type) (enc : TypeId × Value → H) (W : World) (base : Nat) (args : Array Value) (ds gs : List (DataW H)) (before : List MemPlace)
    (hval : ∀ (j : Nat) t v, Try.f12.params[j]? = some t → args[j]? = some v → Value.okWide Try.prog W .any base t v)
    (hW : DataW.Whole enc Try.prog Try.f12.params.toList Rows.execRefusesSpec.vars false W args.toList ds gs before) :
    Calls Try.prog 12 args W fun e W' => ∃ v, e = .returned v ∧ Rows.execRefusesSpec.post enc Try.prog Try.f12 false true false false W args v W' := by
  have hW' := hW
  obtain ⟨p, q, hA, hV, rfl, hfz, hnd⟩ := hW
  rw [Try.params12] at hA hval
  obtain ⟨v0, vs0, d0, ds0, p0, q0, hargs, rfl, rfl, h0, r0⟩ := trodAll_cons hA
  obtain ⟨v1, vs1, d1, ds1, p1, q1, rfl, rfl, rfl, h1, r1⟩ := trodAll_cons r0
  obtain ⟨v2, vs2, d2, ds2, p2, q2, rfl, rfl, rfl, h2, r2⟩ := trodAll_cons r1
  obtain ⟨v3, vs3, d3, ds3, p3, q3, rfl, rfl, rfl, h3, r3⟩ := trodAll_cons r2
  obtain ⟨v4, vs4, d4, ds4, p4, q4, rfl, rfl, rfl, h4, r4⟩ := trodAll_cons r3
  obtain ⟨v5, vs5, d5, ds5, p5, q5, rfl, rfl, rfl, h5, r5⟩ := trodAll_cons r4
  obtain ⟨v6, vs6, d6, ds6, p6, q6, rfl, rfl, rfl, h6, r6⟩ := trodAll_cons r5
  obtain ⟨rfl, rfl, rfl⟩ := trodAll_nil r6
  obtain rfl : args = #[v0, v1, v2, v3, v4, v5, v6] := by cases args; simp_all
  obtain ⟨cs0, rfl, -⟩ := okWide_struct Try.underlying54 (hval 0 54 v0 rfl rfl)
  obtain ⟨cp, cr, cs, fv, fbs, he0, hfv⟩ := rd_code (Rd.of h0)
  obtain rfl : cs0 = ([Value.int .i64 cp, .int .i64 cr, .int .i64 cs, fv]).toArray := by rw [← he0]; simp [Value.cells]
  obtain ⟨cs1, rfl, -⟩ := okWide_struct Try.underlying24 (hval 1 24 v1 rfl rfl)
  obtain ⟨p0, p1, p2, vs, l, he1, g0, g1, g2, hs⟩ := rd_spec (Rd.of h1)
  obtain rfl : cs1 = ([Value.int .u8 p0, .int .u8 p1, .int .u8 p2, vs]).toArray := by rw [← he1]; simp [Value.cells]
  obtain ⟨cs2, rfl, -⟩ := okWide_struct Try.underlying27 (hval 2 27 v2 rfl rfl)
  obtain ⟨av, mv, nv, fuel, args, mem, ans, he2, ha, hm, hn⟩ := rd_input (Rd.of h2)
  obtain rfl : cs2 = ([av, mv, nv, Value.int .i64 fuel]).toArray := by rw [← he2]; simp [Value.cells]
  obtain ⟨tb, rfl, -, -, wf3⟩ := open_int Try.underlying5 (hval 3 5 v3 rfl rfl) h3
  obtain ⟨tk, rfl, -, -, wf4⟩ := open_int Try.underlying5 (hval 4 5 v4 rfl rfl) h4
  obtain ⟨tf, rfl, -, -, wf5⟩ := open_int Try.underlying5 (hval 5 5 v5 rfl rfl) h5
  obtain ⟨tn, rfl, -, -, wf6⟩ := open_int Try.underlying3 (hval 6 3 v6 rfl rfl) h6
  refine (law_calls (f := 12) (args := [.agg ([Value.int .i64 cp, .int .i64 cr, .int .i64 cs, fv]).toArray, .agg ([Value.int .u8 p0, .int .u8 p1, .int .u8 p2, vs]).toArray, .agg ([av, mv, nv, Value.int .i64 fuel]).toArray, .int .u8 tb, .int .u8 tk, .int .u8 tf, .int .i64 tn]) (s12 hfv hs g0 g1 g2 ha hm hn (u8r wf3) (u8r wf4))).mono ?_
  rintro e' W' ⟨rfl, bel⟩
  exact ⟨_, rfl, law_post laidOut hW' rfl (of_decide_eq_true (by kernel_rfl)) rfl Try.underlying4 rfl bel⟩
set_option maxRecDepth 100000 in
theorem lifted (os : Os) (started : os.Started) (H : Type) (enc : TypeId × Value → H) :
    ReturnsInHanded {} Try.checked os 12 .any (Rows.execRefusesSpec.pre6 enc Try.prog Try.f12 Rows.execRefusesRow.domain false) (Rows.execRefusesSpec.post enc Try.prog Try.f12 false true false false) := by
  refine returnsInHanded_of_change (C := Try.checked) own started (by kernel_rfl) Try.func12
    (ChangeSpec.witness6 (enc := enc) (C := Try.checked) false ⟨#[], #[.agg #[.int .i64 0, .int .i64 0, .int .i64 0, .slice none 0 0], .agg #[.int .u8 0, .int .u8 0, .int .u8 0, .slice none 0 0], .agg #[.slice none 0 0, .slice none 0 0, .slice none 0 0, .int .i64 0], .int .u8 0, .int .u8 0, .int .u8 0, .int .i64 0], []⟩ 8 (by kernel_rfl) (by kernel_rfl) (by kernel_rfl) (by kernel_rfl)) ?_
  intro W base args ds gs before hval hW _ _
  exact contract H enc W base args ds gs before hval hW
set_option maxRecDepth 100000 in
theorem proved : Rows.ExecRefusesSaid :=
  OpenClaim.holds_of_wide 12 Try.f12 rfl rfl rfl rfl rfl rfl rfl ⟨rfl, rfl, rfl, rfl, rfl⟩ rfl rfl rfl rfl rfl (by kernel_rfl) Try.func12 (by kernel_rfl)
    (of_decide_eq_true (by kernel_rfl)) (by unfold Func.isWrapper; first | (rw [if_pos (by decide +kernel)]; kernel_rfl) | (rw [if_neg (by decide +kernel)]; exact ⟨rfl, rfl⟩))
    (fun os started H enc _ => lifted os started H enc)
end execRefuses
/-- The row, under a short name, for the claim. -/
theorem execRefusesHolds : Rows.ExecRefusesSaid := execRefuses.proved
#print axioms execRefusesHolds
end Go.Proofs.Ytodeffobplpcnaa
