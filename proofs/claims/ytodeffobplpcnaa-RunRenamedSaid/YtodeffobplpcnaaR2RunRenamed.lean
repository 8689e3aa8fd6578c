/-
  The law RunRenamed answers true. Conditions: none.
-/
import Derived.Test.YtodeffobplpcnaaR2W
import Derived.Test.YtodeffobplpcnaaR2Ltb
import Derived.Test.YtodeffobplpcnaaPc
import Derived.Test.YtodeffobplpcnaaRows
set_option linter.unusedVariables false
set_option linter.unusedSimpArgs false
namespace Go.Proofs.Ytodeffobplpcnaa
open Go Go.ChangeShapes Go.WideShapes Go.ChangeAt Go.RowKit

/-- What comes next. -/
def Out.nx : Out → Out
  | .ite _ _ b => b
  | .need _ _ k => k
  | .both a _ => a
  | .loop _ _ _ b => b
  | o => o
def fin10 : Out := pick10.nx.nx.nx.nx.nx.nx
def ini10 : List SV := [(.int .i64 (.lit 0)), (.int .i64 (.op .add .i64 (.var 11) (.op .rem .i64 (.conv .i64 (.var 9)) (.op .sub .i64 (.var 12) (.var 11))))), (.int .i64 (.op .add .i64 (.var 11) (.op .rem .i64 (.conv .i64 (.var 8)) (.op .sub .i64 (.var 12) (.var 11)))))]
theorem pick10_eq : pick10 = (.ite (.cmp .lss (.op .sub .i64 (.var 12) (.var 11)) (.lit 2))
      (.done (.bool (.tt true)) [])
      (.need (.tt true) [(.cmp .neq (.op .sub .i64 (.var 12) (.var 11)) (.lit 0))]
      (.need (.tt true) [(.cmp .neq (.op .sub .i64 (.var 12) (.var 11)) (.lit 0))]
      (.both (.loop 0 ini10 [.int .i64, .int .i64, .int .i64] (blkT false fin10)) (.loop 0 ini10 [.int .i64, .int .i64, .int .i64] (blkT true fin10)))))) := by kernel_rfl
theorem ren_of {x : Ins} {n : Int} {p : Int → Int} (hp : ∀ i, inR n i = true → inR n (p i) = true) (h : ofM x n = 0) : ofM (renI p x) n = 0 := by
  obtain ⟨k1, k2⟩ := ofM_zeroJ h
  have hk : ¬ (¬ (1 ≤ x.kind ∧ x.kind ≤ 6) ∨ (x.kind = 3 ∧ ¬ (1 ≤ x.op ∧ x.op ≤ 7)) ∨ ¬ plainM x) := by
    intro hc; rw [ofM_20 hc] at h; cases h
  have k2' : ∀ y ∈ namedM x, inR n (p y) = true := fun y hy => hp y (by simp only [inR, decide_eq_true_eq]; exact k2 y hy)
  have hkk : 1 ≤ x.kind ∧ x.kind ≤ 6 := by grind
  have ho : x.kind = 3 → 1 ≤ x.op ∧ x.op ≤ 7 := by grind
  have hpl : plainM x := by grind
  unfold ofM
  rw [if_neg, if_neg, if_pos]
  · rw [List.all_eq_true]
    intro y hy
    have h6 : x.kind = 1 ∨ x.kind = 2 ∨ x.kind = 3 ∨ x.kind = 4 ∨ x.kind = 5 ∨ x.kind = 6 := by omega
    rcases h6 with k | k | k | k | k | k <;> simp [namedM, usesM, givesM, renI, k] at hy k2'
    all_goals grind
  · show ¬ 3 < (x.args.map p).length
    rw [List.length_map]; omega
  · intro hc
    rcases hc with hc | hc | hc
    · exact hc hkk
    · exact hc.2 (ho hc.1)
    · refine hc ?_
      unfold plainM at hpl ⊢
      obtain ⟨q1, q2, q3, q4, q5, q6⟩ := hpl
      simp only [renI]
      refine ⟨q1, ?_, ?_, ?_, q5, ?_⟩
      · by_cases k : x.kind = 5
        · rw [if_neg (by omega)]; exact q2
        · right; omega
      · by_cases k : x.kind ≠ 1 ∧ x.kind ≠ 6
        · right; omega
        · rw [if_neg k]; exact q3
      · by_cases k : x.kind = 3 ∨ x.kind = 5
        · right; exact k
        · rw [if_neg k]; exact q4
      · rcases q6 with q | q
        · left; rw [q]; rfl
        · exact .inr q
theorem ren_end {e : Fin4} {n m : Int} {p : Int → Int} (hp : ∀ i, inR n i = true → inR n (p i) = true) (h : endM e n m 21 = 0) : endM (renE p e) n m 21 = 0 := by
  have := hp e.a
  simp only [inR, decide_eq_true_eq] at this
  unfold endM at h ⊢
  simp only [renE]
  grind (splits := 60)
theorem ren_check {P V : Nat} {B : List Blk} {p : Int → Int} (hp : ∀ i, inR (V : Int) i = true → inR (V : Int) (p i) = true) (hPV : P ≤ V) (hP : P ≤ 4) (hV : V ≤ 32) (hck : checkM (P : Int) (V : Int) B = (0, 0, 0)) : checkM (P : Int) (V : Int) (B.map (renB p)) = (0, 0, 0) := by
  obtain ⟨b1, b2, hpart⟩ := checkM_zeroR (p := P) (n := V) (bs := B) (by rw [hck])
  unfold checkM
  rw [if_neg (by rw [List.length_map]; omega), List.length_map]
  refine blkF_ok fun zb hz => ?_
  obtain ⟨z, hz', rfl⟩ := List.mem_map.1 hz
  obtain ⟨q1, q2, q3⟩ := hpart z hz'
  refine ⟨by simp only [renB, List.length_map]; exact q1, fun y hy => ?_, ren_end hp q3⟩
  obtain ⟨y', hy', rfl⟩ := List.mem_map.1 hy
  exact ren_of hp (q2 y' hy')
theorem asM_in {u v lo hi x : Int} (hu : lo ≤ u ∧ u < hi) (hv : lo ≤ v ∧ v < hi) (h0 : 0 ≤ lo) (hx : 0 ≤ x ∧ x < hi) : 0 ≤ asM u v x ∧ asM u v x < hi := by
  unfold asM; split
  · omega
  · split <;> omega
set_option maxRecDepth 20000 in
theorem pick_holds {h g2 g3 : H} {vs av mv nv u v : Value} {p0 p1 p2 fuel c8 c9 : Int} {args mem ans : List Int} {P V : Nat} {B : List Blk} {fq : List Nat} (b8 : 0 ≤ c8 ∧ c8 ≤ 255) (b9 : 0 ≤ c9 ∧ c9 ≤ 255)
    (ha : IntsAt h av args) (hm : IntsAt h mv mem) (hn : IntsAt h nv ans) (hl2 : h.le g2) (hl23 : g2.le g3) (hu : BlksAt g2 u B) (own : OwnBlks g3 v B fq) (nd : fq.Nodup) (hfq : Fresh g2 fq)
    (hPl : P ≤ 4) (hVl : V ≤ 31) (hV1 : 1 ≤ V) (hPV : P ≤ V) (hck : checkM (P : Int) (V : Int) B = (0, 0, 0)) (hok : ∀ z ∈ B, BlOk (V : Int) ((V + 0 : Nat) : Int) B.length z) (hb1 : 1 ≤ B.length) (hb2 : B.length ≤ 16) :
    holds Try.prog (Ret fun r h' => h.le h' ∧ r = .bool true) pick10 [.int .u8 p0, .int .u8 p1, .int .u8 p2, vs, av, mv, nv, .int .i64 fuel, .int .u8 c8, .int .u8 c9, .bool true, .int .i64 (P : Int), .int .i64 (V : Int), u, .int .i64 (P : Int), .int .i64 (V : Int), v] [] g3 := by
  obtain ⟨-, -, hpart⟩ := checkM_zeroR (p := P) (n := V) (bs := B) (by rw [hck])
  have hl3 := hl2.trans hl23
  rw [pick10_eq]
  have hsub : intOp .sub .i64 (V : Int) (P : Int) = (V : Int) - (P : Int) := by
    simp only [intOp]; rw [wrap_i64 (by omega) (by omega)]
  refine h_ite (fun _ => ⟨rfl, hl3, rfl⟩) (fun hc => ?_)
  replace hc : cmpOp .lss (intOp .sub .i64 (V : Int) (P : Int)) 2 = false := hc
  rw [hsub, cmp_lss, decide_eq_false_iff_not] at hc
  have hnz : cmpOp .neq (intOp .sub .i64 (V : Int) (P : Int)) 0 = true := by rw [hsub, cmp_neq, decide_eq_true_eq]; omega
  refine ⟨fun _ => ⟨hnz, trivial⟩, fun _ => ⟨hnz, trivial⟩, ?_⟩
  obtain ⟨n, hn0⟩ : ∃ n : Int, n = (V : Int) - (P : Int) := ⟨_, rfl⟩
  have r8 := tmod_range (a := c8) (n := n) b8.1 (by omega)
  have r9 := tmod_range (a := c9) (n := n) b9.1 (by omega)
  obtain ⟨u0, hu0⟩ : ∃ u0 : Int, u0 = (P : Int) + c8.tmod n := ⟨_, rfl⟩
  obtain ⟨v0, hv0⟩ : ∃ v0 : Int, v0 = (P : Int) + c9.tmod n := ⟨_, rfl⟩
  have hini : SV.denL [.int .u8 p0, .int .u8 p1, .int .u8 p2, vs, av, mv, nv, .int .i64 fuel, .int .u8 c8, .int .u8 c9, .bool true, .int .i64 (P : Int), .int .i64 (V : Int), u, .int .i64 (P : Int), .int .i64 (V : Int), v] dE ini10 = [.int .i64 0, .int .i64 v0, .int .i64 u0] := by
    have q : ∀ c : Int, 0 ≤ c ∧ c ≤ 255 → intOp .add .i64 (P : Int) (intOp .rem .i64 (IntKind.i64.wrap c) (intOp .sub .i64 (V : Int) (P : Int))) = (P : Int) + c.tmod n := fun c hc => by
      have := tmod_range (a := c) (n := n) hc.1 (by omega)
      rw [hsub, wrap_i64 (n := c) (by omega) (by omega), ← hn0]
      simp only [intOp]
      rw [wrap_i64 (by omega) (by omega)]
    show [Value.int .i64 0, .int .i64 (intOp .add .i64 (P : Int) (intOp .rem .i64 (IntKind.i64.wrap c9) (intOp .sub .i64 (V : Int) (P : Int)))), .int .i64 (intOp .add .i64 (P : Int) (intOp .rem .i64 (IntKind.i64.wrap c8) (intOp .sub .i64 (V : Int) (P : Int))))] = _
    rw [q c9 b9, q c8 b8, ← hu0, ← hv0]
  have hui : (P : Int) ≤ u0 ∧ u0 < (V : Int) := by omega
  have hvi : (P : Int) ≤ v0 ∧ v0 < (V : Int) := by omega
  have hp : ∀ i, inR (V : Int) i = true → inR (V : Int) (asM u0 v0 i) = true := fun i hi => by
    simp only [inR, decide_eq_true_eq] at hi ⊢
    exact asM_in hui hvi (by omega) hi
  have hck2 : checkM (P : Int) (V : Int) (B.map (renB (asM u0 v0))) = (0, 0, 0) := ren_check hp hPV hPl (by omega) hck
  have hsm : ∀ z ∈ B, z.ins.length ≤ 1000 ∧ ∀ y ∈ z.ins, y.args.length ≤ 1000 := fun z hz => by
    obtain ⟨q1, q2, q3⟩ := hpart z hz
    exact ⟨by omega, fun y hy => by have := (ofM_zeroJ (q2 y hy)).1; omega⟩
  have hkd : ∀ z ∈ B, ∀ y ∈ z.ins, y.kind ≠ 7 ∧ y.kind ≠ 8 := fun z hz y hy => by
    obtain ⟨q1, q2, q3⟩ := hpart z hz
    have := q2 y hy
    have hk : ¬ (¬ (1 ≤ y.kind ∧ y.kind ≤ 6) ∨ (y.kind = 3 ∧ ¬ (1 ≤ y.op ∧ y.op ≤ 7)) ∨ ¬ plainM y) := by
      intro hc; rw [ofM_20 hc] at this; cases this
    have : 1 ≤ y.kind ∧ y.kind ≤ 6 := by grind
    omega
  -- what is left behind the loops
  have fin : ∀ (g5 : H) (Lv : Lv) (k : Int), OwnBlks g5 v (B.map (renB (asM u0 v0))) fq → KeptH g3 g5 fq →
      holds Try.prog (Ret fun r h' => h.le h' ∧ r = .bool true) fin10 ([.int .u8 p0, .int .u8 p1, .int .u8 p2, vs, av, mv, nv, .int .i64 fuel, .int .u8 c8, .int .u8 c9, .bool true, .int .i64 (P : Int), .int .i64 (V : Int), u, .int .i64 (P : Int), .int .i64 (V : Int), v] ++ [.int .i64 k, .int .i64 v0, .int .i64 u0]) Lv g5 := fun g5 Lv k own5 hk5 => by
    have hl25 : g2.le g5 := hk5.le hl23 hfq
    have hl5 := hl2.trans hl25
    have hB5 := SlAt.le blkC_mono hl25 hu
    have own5' := own5.at
    obtain ⟨Z, hZ⟩ : ∃ Z, Z = [Value.int .u8 p0, .int .u8 p1, .int .u8 p2, vs, av, mv, nv, .int .i64 fuel, .int .u8 c8, .int .u8 c9, .bool true, .int .i64 (P : Int), .int .i64 (V : Int), u, .int .i64 (P : Int), .int .i64 (V : Int), v] ++ [.int .i64 k, .int .i64 v0, .int .i64 u0] := ⟨_, rfl⟩
    rw [← hZ]
    have hZl : Z.length = 20 := by rw [hZ]; rfl
    have z : ∀ (E : List Value), gv (Z ++ E) 4 = av ∧ gv (Z ++ E) 5 = mv ∧ gv (Z ++ E) 6 = nv ∧ gv (Z ++ E) 7 = .int .i64 fuel ∧ gv (Z ++ E) 11 = .int .i64 (P : Int) ∧ gv (Z ++ E) 12 = .int .i64 (V : Int) ∧ gv (Z ++ E) 13 = u ∧ gv (Z ++ E) 14 = .int .i64 (P : Int) ∧ gv (Z ++ E) 15 = .int .i64 (V : Int) ∧ gv (Z ++ E) 16 = v := fun E => by
      refine ⟨?_, ?_, ?_, ?_, ?_, ?_, ?_, ?_, ?_, ?_⟩ <;> (rw [gv_of_lt (by omega), hZ, gv_of_lt (by simp)]; rfl)
    clear hZ
    refine h_call0 (Q := fun r h' => ∃ u m' n', r = .agg #[u, m', n', .int .i64 (fuelM fuel)] ∧ g5.le h' ∧ IntsAt h' u (inArgs args P) ∧ IntsAt h' m' (mem.take 100) ∧ IntsAt h' n' (ans.take 100)) ?_ ?_
    · have := s17 (p := P) (fuel := fuel) (ha.le hl5) (hm.le hl5) (hn.le hl5) (by omega)
      have zz := z []
      rw [List.append_nil] at zz
      obtain ⟨z5, z6, z7, z8, z13, -⟩ := zz
      simp only [SV.denL, SV.den, X.den]
      rw [z5, z6, z7, z8, z13]
      exact this
    rintro _ g6 ⟨u', m', n', rfl, hl6, iu, im, inn⟩
    refine ⟨[u', m', n', .int .i64 (fuelM fuel)], ⟨iu.fit, im.fit, inn.fit, ⟨_, rfl⟩, trivial⟩, rfl, ?_⟩
    have hfr := fuelM_range fuel
    obtain ⟨A, hA⟩ : ∃ A, A = Z ++ [u', m', n', .int .i64 (fuelM fuel)] := ⟨_, rfl⟩
    rw [← hA]
    have hAl : A.length = 24 := by rw [hA]; simp [hZl]
    have hin : ∀ D : List Value, gv (A ++ D) 20 = u' ∧ gv (A ++ D) 21 = m' ∧ gv (A ++ D) 22 = n' ∧ gv (A ++ D) 23 = .int .i64 (fuelM fuel) := fun D => by
      rw [hA, List.append_assoc]
      exact ⟨gv_at (j := 0) (by omega), gv_at (j := 1) (by omega), gv_at (j := 2) (by omega), gv_at (j := 3) (by omega)⟩
    have z' : ∀ D : List Value, gv (A ++ D) 11 = .int .i64 (P : Int) ∧ gv (A ++ D) 12 = .int .i64 (V : Int) ∧ gv (A ++ D) 13 = u ∧ gv (A ++ D) 14 = .int .i64 (P : Int) ∧ gv (A ++ D) 15 = .int .i64 (V : Int) ∧ gv (A ++ D) 16 = v := fun D => by
      rw [hA, List.append_assoc]; exact (z _).2.2.2.2
    refine h_callO2 (Q := fun t e h' => g6.le h' ∧ CallsOk t ∧ RunSpec P V B (inArgs args P) (mem.take 100) (ans.take 100) (fuelM fuel) e t) ?_ ?_
    · have := s18 (p := P) (n := V) (fuel := fuelM fuel) (SlAt.le blkC_mono hl6 hB5) iu im inn
      obtain ⟨x1, x2, x3, x4⟩ := hin []
      obtain ⟨y1, y2, y3, -⟩ := z' []
      rw [List.append_nil] at x1 x2 x3 x4 y1 y2 y3
      simp only [SV.denL, SV.den, X.den]
      rw [x1, x2, x3, x4, y1, y2, y3]
      exact this.post fun r h' q => q
    rintro t er cv g7 m1 cc1 ⟨hl7, hco, hsp⟩
    obtain ⟨rfl, hrun⟩ := run_made hck hfr (inArgs_len args P) hsp
    refine h_callO2 (Q := fun t2 e2 h' => g7.le h' ∧ CallsOk t2 ∧ RunSpec P V (B.map (renB (asM u0 v0))) (inArgs args P) (mem.take 100) (ans.take 100) (fuelM fuel) e2 t2) ?_ ?_
    · have := s18 (p := P) (n := V) (fuel := fuelM fuel) (SlAt.le blkC_mono (hl6.trans hl7) own5') (iu.le hl7) (im.le hl7) (inn.le hl7)
      obtain ⟨x1, x2, x3, x4⟩ := hin (outC t cv ++ [.int .i64 0])
      obtain ⟨-, -, -, y5, y6, y7⟩ := z' (outC t cv ++ [.int .i64 0])
      simp only [SV.denL, SV.den, X.den]
      rw [x1, x2, x3, x4, y5, y6, y7]
      exact this.post fun r h' q => q
    rintro t2 e2 cv2 g8 m2 cc2 ⟨hl8, hco2, hsp2⟩
    obtain ⟨rfl, hrun2⟩ := run_made hck2 hfr (inArgs_len args P) hsp2
    have hso := renamed_run (p := asM u0 v0) (fun z hz => by have := hok z hz; simpa using this) hkd
      (fun i hi => by have := asM_in hui hvi (by omega) hi; exact this)
      (fun i j hi hj e => by unfold asM at e; grind (splits := 30))
      (fun i hi => by
        rw [inArgs_len]
        obtain ⟨i1, i2⟩ := hi
        by_cases q : i < (P : Int)
        · rw [if_pos q]; unfold asM; rw [if_neg (by omega), if_neg (by omega)]
        · rw [if_neg q]; unfold asM
          split
          · omega
          · split <;> omega) (by rw [inArgs_len]; omega) hrun hrun2
    have eG : A ++ (outC t cv ++ [Value.int .i64 0]) ++ (outC t2 cv2 ++ [.int .i64 0]) = A ++ (outC t cv ++ ([.int .i64 0] ++ (outC t2 cv2 ++ [.int .i64 0]))) := by simp
    have hAl2 : (A ++ (outC t cv ++ [Value.int .i64 0])).length = 93 := by simp [hAl, outC_len m1]
    have f1 := gOe (A := A) (B := [Value.int .i64 0] ++ (outC t2 cv2 ++ [.int .i64 0])) (cv := cv) (j := 0) hAl m1
    rw [← eG] at f1
    have f2 := gOe (A := A ++ (outC t cv ++ [.int .i64 0])) (B := [.int .i64 0]) (cv := cv2) (j := 0) hAl2 m2
    refine iteT (both_ok f1 f2) ?_
    refine h_same (A := A) (M := [.int .i64 0]) (D := [.int .i64 0]) eG m1 m2 (SlAt.le callC_mono hl8 cc1) cc2 hso hco (by rw [hAl]; rfl) (by rw [hAl]; rfl) ?_
    refine ⟨rfl, ((hl5.trans hl6).trans hl7).trans hl8, ?_⟩
    have hGl : (A ++ (outC t cv ++ [Value.int .i64 0]) ++ (outC t2 cv2 ++ [Value.int .i64 0])).length = 162 := by simp [hAl, outC_len m1, outC_len m2]
    simp only [SV.den, X.den]
    rw [gv_at (j := 0) (by omega)]; rfl
  exact ⟨blks_holds own nd rfl rfl hini (by omega) hsm fin, blks_holds own nd rfl rfl hini (by omega) hsm fin⟩
set_option maxRecDepth 20000 in
theorem s10 {h : H} {vs av mv nv : Value} {p0 p1 p2 fuel c8 c9 : Int} {l args mem ans : List Int} (hs : BytesAt h vs l) (h0 : 0 ≤ p0) (h1 : 0 ≤ p1) (h2 : 0 ≤ p2) (ha : IntsAt h av args) (hm : IntsAt h mv mem) (hn : IntsAt h nv ans)
    (b8 : 0 ≤ c8 ∧ c8 ≤ 255) (b9 : 0 ≤ c9 ∧ c9 ≤ 255) :
    CallsA Try.prog 10 (fun _ => [.agg #[.int .u8 p0, .int .u8 p1, .int .u8 p2, vs], .agg #[av, mv, nv, .int .i64 fuel], .int .u8 c8, .int .u8 c9]) [] h (Ret fun r h' => h.le h' ∧ r = .bool true) := by
  refine c10 (G := [.int .u8 p0, .int .u8 p1, .int .u8 p2, vs, av, mv, nv, .int .i64 fuel, .int .u8 c8, .int .u8 c9]) ⟨⟨_, rfl⟩, ⟨_, rfl⟩, ⟨_, rfl⟩, hs.fit, ha.fit, hm.fit, hn.fit, ⟨_, rfl⟩, ⟨_, rfl⟩, ⟨_, rfl⟩, trivial⟩ ?_
  refine h_call0 s15 ?_
  rintro _ g1 ⟨hl1, rfl⟩
  refine ⟨[.bool true], ⟨⟨_, rfl⟩, trivial⟩, rfl, h_ite (fun hc => by cases hc) (fun _ => ?_)⟩
  have F := made_fun h0 h1 h2 hs.inB
  have hV1 := (madeV_range h0 h1).1
  obtain ⟨P, V, hP, hV, hPl, hVl, hPV, hck, hok, hb1, hb2⟩ := F
  simp only [List.cons_append, List.nil_append]
  -- the second call
  have L1 : ∀ (k : Out) (g2 : H) (u : Value), g1.le g2 → BlksAt g2 u (madeB p0 p1 p2 l) →
      (∀ (g3 : H) (v : Value) (fq : List Nat), g2.le g3 → OwnBlks g3 v (madeB p0 p1 p2 l) fq → fq.Nodup → Fresh g2 fq → holds Try.prog (Ret fun r h' => h.le h' ∧ r = .bool true) k [.int .u8 p0, .int .u8 p1, .int .u8 p2, vs, av, mv, nv, .int .i64 fuel, .int .u8 c8, .int .u8 c9, .bool true, .int .i64 (P : Int), .int .i64 (V : Int), u, .int .i64 (P : Int), .int .i64 (V : Int), v] [] g3) →
      holds Try.prog (Ret fun r h' => h.le h' ∧ r = .bool true) (.call 16 [(.agg [(.int .u8 (.var 0)), (.int .u8 (.var 1)), (.int .u8 (.var 2)), (.val 3)])] [] [] [] [(true, [.int .i64, .int .i64, .sl])] k)
        [.int .u8 p0, .int .u8 p1, .int .u8 p2, vs, av, mv, nv, .int .i64 fuel, .int .u8 c8, .int .u8 c9, .bool true, .int .i64 (P : Int), .int .i64 (V : Int), u] [] g2 := fun k g2 u hl12 hu hk => by
    refine h_call0 (s16 (p0 := p0) (p1 := p1) (p2 := p2) ((hs.le hl1).le hl12) h0 h1 h2) ?_
    rintro _ g3 ⟨hk3, v, fq, rfl, hv, hfq, hnd⟩
    refine ⟨[.int .i64 (madeP p0), .int .i64 (madeV p0 p1), v], ⟨⟨_, rfl⟩, ⟨_, rfl⟩, hv.at.fit, trivial⟩, rfl, ?_⟩
    rw [hP, hV]
    exact hk g3 v fq hk3.le_nil hv hnd hfq
  have L0 : ∀ (k : Out), (∀ (g2 : H) (u : Value), g1.le g2 → BlksAt g2 u (madeB p0 p1 p2 l) → holds Try.prog (Ret fun r h' => h.le h' ∧ r = .bool true) k [.int .u8 p0, .int .u8 p1, .int .u8 p2, vs, av, mv, nv, .int .i64 fuel, .int .u8 c8, .int .u8 c9, .bool true, .int .i64 (P : Int), .int .i64 (V : Int), u] [] g2) →
      holds Try.prog (Ret fun r h' => h.le h' ∧ r = .bool true) (.call 16 [(.agg [(.int .u8 (.var 0)), (.int .u8 (.var 1)), (.int .u8 (.var 2)), (.val 3)])] [] [] [] [(true, [.int .i64, .int .i64, .sl])] k)
        [.int .u8 p0, .int .u8 p1, .int .u8 p2, vs, av, mv, nv, .int .i64 fuel, .int .u8 c8, .int .u8 c9, .bool true] [] g1 := fun k hk => by
    refine h_call0 (s16 (p0 := p0) (p1 := p1) (p2 := p2) (hs.le hl1) h0 h1 h2) ?_
    rintro _ g2 ⟨hk2, u, fp, rfl, hu, -, -⟩
    refine ⟨[.int .i64 (madeP p0), .int .i64 (madeV p0 p1), u], ⟨⟨_, rfl⟩, ⟨_, rfl⟩, hu.at.fit, trivial⟩, rfl, ?_⟩
    rw [hP, hV]
    exact hk g2 u hk2.le_nil hu.at
  have LP : ∀ (g2 : H) (u : Value), g1.le g2 → BlksAt g2 u (madeB p0 p1 p2 l) → ∀ (g3 : H) (v : Value) (fq : List Nat), g2.le g3 → OwnBlks g3 v (madeB p0 p1 p2 l) fq → fq.Nodup → Fresh g2 fq → holds Try.prog (Ret fun r h' => h.le h' ∧ r = .bool true) pick10 [.int .u8 p0, .int .u8 p1, .int .u8 p2, vs, av, mv, nv, .int .i64 fuel, .int .u8 c8, .int .u8 c9, .bool true, .int .i64 (P : Int), .int .i64 (V : Int), u, .int .i64 (P : Int), .int .i64 (V : Int), v] [] g3 := fun g2 u hl12 hu g3 v fq hl23 own nd hfq =>
    pick_holds b8 b9 ha hm hn (hl1.trans hl12) hl23 hu own nd hfq hPl hVl (by omega) hPV hck hok hb1 hb2
  have one : ∀ (g2 : H) (u : Value) (a : g1.le g2) (b : BlksAt g2 u (madeB p0 p1 p2 l)), _ := fun g2 u a b => L1 pick10 g2 u a b (LP g2 u a b)
  have two : ∀ (g2 : H) (u : Value) (a : g1.le g2) (b : BlksAt g2 u (madeB p0 p1 p2 l)), _ := fun g2 u a b => L1 (.both pick10 pick10) g2 u a b (fun g3 v fq c d e f => ⟨LP g2 u a b g3 v fq c d e f, LP g2 u a b g3 v fq c d e f⟩)
  refine ⟨L0 _ fun g2 u a b => ⟨two g2 u a b, ⟨one g2 u a b, one g2 u a b⟩, one g2 u a b, one g2 u a b⟩, ⟨L0 _ fun g2 u a b => ⟨one g2 u a b, one g2 u a b⟩, L0 _ fun g2 u a b => one g2 u a b⟩, L0 _ fun g2 u a b => ⟨one g2 u a b, one g2 u a b⟩, L0 _ fun g2 u a b => one g2 u a b⟩
namespace runRenamed
theorem own : ownKnob Try.prog.godebug = none := by kernel_rfl
set_option maxRecDepth 100000 in
theorem laidOut : laidOutB Try.prog = true := by kernel_rfl
set_option maxRecDepth 100000 in
theorem contract (H : Type) (enc : TypeId × Value → H) (W : World) (base : Nat) (args : Array Value) (ds gs : List (DataW H)) (before : List MemPlace)
    (hval : ∀ (j : Nat) t v, Try.f10.params[j]? = some t → args[j]? = some v → Value.okWide Try.prog W .any base t v)
    (hW : DataW.Whole enc Try.prog Try.f10.params.toList Rows.runRenamedSpec.vars false W args.toList ds gs before) :
    Calls Try.prog 10 args W fun e W' => ∃ v, e = .returned v ∧ Rows.runRenamedSpec.post enc Try.prog Try.f10 false true false false W args v W' := by
  have hW' := hW
  obtain ⟨p, q, hA, hV, rfl, hfz, hnd⟩ := hW
  rw [Try.params10] at hA hval
  obtain ⟨v0, vs0, d0, ds0, p0, q0, hargs, rfl, rfl, h0, r0⟩ := trodAll_cons hA
  obtain ⟨v1, vs1, d1, ds1, p1, q1, rfl, rfl, rfl, h1, r1⟩ := trodAll_cons r0
  obtain ⟨v2, vs2, d2, ds2, p2, q2, rfl, rfl, rfl, h2, r2⟩ := trodAll_cons r1
  obtain ⟨v3, vs3, d3, ds3, p3, q3, rfl, rfl, rfl, h3, r3⟩ := trodAll_cons r2
  obtain ⟨rfl, rfl, rfl⟩ := trodAll_nil r3
  obtain rfl : args = #[v0, v1, v2, v3] := by cases args; simp_all
  obtain ⟨cs0, rfl, -⟩ := okWide_struct Try.underlying24 (hval 0 24 v0 rfl rfl)
  obtain ⟨p0, p1, p2, vs, l, he0, g0, g1, g2, hs⟩ := rd_spec (Rd.of h0)
  obtain rfl : cs0 = ([Value.int .u8 p0, .int .u8 p1, .int .u8 p2, vs]).toArray := by rw [← he0]; simp [Value.cells]
  obtain ⟨cs1, rfl, -⟩ := okWide_struct Try.underlying27 (hval 1 27 v1 rfl rfl)
  obtain ⟨av, mv, nv, fuel, args, mem, ans, he1, ha, hm, hn⟩ := rd_input (Rd.of h1)
  obtain rfl : cs1 = ([av, mv, nv, Value.int .i64 fuel]).toArray := by rw [← he1]; simp [Value.cells]
  obtain ⟨c8, rfl, -, -, wf2⟩ := open_int Try.underlying5 (hval 2 5 v2 rfl rfl) h2
  obtain ⟨c9, rfl, -, -, wf3⟩ := open_int Try.underlying5 (hval 3 5 v3 rfl rfl) h3
  refine (law_calls (f := 10) (args := [.agg ([Value.int .u8 p0, .int .u8 p1, .int .u8 p2, vs]).toArray, .agg ([av, mv, nv, Value.int .i64 fuel]).toArray, .int .u8 c8, .int .u8 c9]) (s10 hs g0 g1 g2 ha hm hn (u8r wf2) (u8r wf3))).mono ?_
  rintro e' W' ⟨rfl, bel⟩
  exact ⟨_, rfl, law_post laidOut hW' rfl (of_decide_eq_true (by kernel_rfl)) rfl Try.underlying4 rfl bel⟩
set_option maxRecDepth 100000 in
theorem lifted (os : Os) (started : os.Started) (H : Type) (enc : TypeId × Value → H) :
    ReturnsInHanded {} Try.checked os 10 .any (Rows.runRenamedSpec.pre6 enc Try.prog Try.f10 Rows.runRenamedRow.domain false) (Rows.runRenamedSpec.post enc Try.prog Try.f10 false true false false) := by
  refine returnsInHanded_of_change (C := Try.checked) own started (by kernel_rfl) Try.func10
    (ChangeSpec.witness6 (enc := enc) (C := Try.checked) false ⟨#[], #[.agg #[.int .u8 0, .int .u8 0, .int .u8 0, .slice none 0 0], .agg #[.slice none 0 0, .slice none 0 0, .slice none 0 0, .int .i64 0], .int .u8 0, .int .u8 0], []⟩ 8 (by kernel_rfl) (by kernel_rfl) (by kernel_rfl) (by kernel_rfl)) ?_
  intro W base args ds gs before hval hW _ _
  exact contract H enc W base args ds gs before hval hW
set_option maxRecDepth 100000 in
theorem proved : Rows.RunRenamedSaid :=
  OpenClaim.holds_of_wide 10 Try.f10 rfl rfl rfl rfl rfl rfl rfl ⟨rfl, rfl, rfl, rfl, rfl⟩ rfl rfl rfl rfl rfl (by kernel_rfl) Try.func10 (by kernel_rfl)
    (of_decide_eq_true (by kernel_rfl)) (by unfold Func.isWrapper; first | (rw [if_pos (by decide +kernel)]; kernel_rfl) | (rw [if_neg (by decide +kernel)]; exact ⟨rfl, rfl⟩))
    (fun os started H enc _ => lifted os started H enc)
end runRenamed
/-- The row, under a short name, for the claim. -/
theorem runRenamedHolds : Rows.RunRenamedSaid := runRenamed.proved
#print axioms runRenamedHolds
end Go.Proofs.Ytodeffobplpcnaa
