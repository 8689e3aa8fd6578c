/-
  How LiveGiven ends: two runs, compared but for the fuel that is left. Conditions: as the lemma says.
-/
import Derived.Test.YtbbicdfipheaeaaDoorR5Z
import Derived.Test.YtbbicdfipheaeaaDoorRnK
set_option linter.unusedVariables false
set_option linter.unusedSimpArgs false
namespace Go.Proofs.YtbbicdfipheaeaaDoor
open Go

def outSh0 : List Sh := .int .i64 :: .int .i64 :: .sl :: List.replicate 64 (.int .i64)
def outC0 (s : Rs) (cv : Value) : List Value := .int .i64 s.how :: .int .i64 s.value :: cv :: s.mem.map (.int .i64)
theorem outC0_fit {s : Rs} {cv : Value} (hm : s.mem.length = 64) (hc : Fits .sl cv) : FitsL outSh0 (outC0 s cv) := by
  refine ⟨⟨_, rfl⟩, ⟨_, rfl⟩, hc, ?_⟩
  rw [← hm]
  have : ∀ l : List Int, FitsL (List.replicate l.length (.int .i64)) (l.map (.int .i64)) := fun l => by
    induction l with
    | nil => trivial
    | cons a l ih => exact ⟨⟨_, rfl⟩, ih⟩
  exact this _
theorem outC_eq {s : Rs} {cv : Value} : outC s cv = outC0 s cv ++ [.int .i64 s.left] := rfl
theorem denL_app2 {G : List Value} {E : Nat → CE} (a b : List SV) : SV.denL G E (a ++ b) = SV.denL G E a ++ SV.denL G E b := by simp [SV.denL_eq]
def l0 (a : Nat) : List SV := Sh.svs a outSh0 ++ [.int .i64 (.lit 0)]
def finG (a : Nat) : Out :=
 (.call 36 [(.agg [(.val 4), (.val 5), (.val 6), (.int .i64 (.var 7))]), (.int .i64 (.var 13))] [] [] [] [(true, [.sl, .sl, .sl, .int .i64])]
 (.call 37 [(.agg [(.int .i64 (.var 13)), (.int .i64 (.var 14)), (.val 15)]), (.agg [(.val (a + 0)), (.val (a + 1)), (.val (a + 2)), (.int .i64 (.var (a + 3)))])] [] [] [] [(true, outSh), (false, [.int .i64])]
 (.call 37 [(.agg [(.int .i64 (.var 16)), (.int .i64 (.var 17)), (.val 18)]), (.agg [(.val (a + 0)), (.val (a + 1)), (.val (a + 2)), (.int .i64 (.op .add .i64 (.op .mul .i64 (.lit 2) (.var (a + 3))) (.lit 2)))])] [] [] [] [(true, outSh), (false, [.int .i64])]
 (.ite (.ite (.cmp .neq (.var (a + 72)) (.lit 0)) (.tt true) (.cmp .neq (.var (a + 141)) (.lit 0)))
  (.done (.bool (.tt false)) [])
  (.ite (.cmp .eql (.var (a + 4)) (.lit 3))
   (.done (.bool (.tt true)) [])
   (.call 38 [.agg (l0 (a + 4)), .agg (l0 (a + 73))] [] [] [] [(false, [.bool])] 
   (.done (.bool (.var (a + 142))) [])))))))
theorem const_ok {r V : Nat} {n : Int} (hr : r < V) : ofM (constI r n) V = 0 := by
  have h1 : (constI r n).kind = 1 := rfl
  unfold ofM
  rw [if_neg (by simp [constI, plainM]), if_neg (by simp [constI])]
  rw [if_pos]
  simp [namedM, usesM, givesM, constI, inR]
  omega
theorem fuel2 {F : Int} (h : 0 ≤ F ∧ F < 400) : intOp .add .i64 (intOp .mul .i64 2 F) 2 = 2 * F + 2 := by
  simp only [intOp]
  rw [wrap_i64 (n := 2 * F) (by omega) (by omega), wrap_i64 (by omega) (by omega)]
set_option maxRecDepth 20000 in
theorem finG_holds {h0 h : H} {G : List Value} {L : Lv} {a P V i k r : Nat} {av mv nv u v : Value} {fuel n : Int} {args mem ans : List Int} {B : List Blk} {x : Blk} {Ls : List SP}
    (hG : G.length = a) (h18 : 18 < a) (e : gv G 4 = av ∧ gv G 5 = mv ∧ gv G 6 = nv ∧ gv G 7 = .int .i64 fuel ∧ gv G 13 = .int .i64 (P : Int) ∧ gv G 14 = .int .i64 (V : Int) ∧ gv G 15 = u ∧ gv G 16 = .int .i64 (P : Int) ∧ gv G 17 = .int .i64 (V : Int) ∧ gv G 18 = v)
    (hle : h0.le h) (ha : IntsAt h av args) (hm : IntsAt h mv mem) (hn : IntsAt h nv ans) (hu : BlksAt h u B) (hv : BlksAt h v (B.set i (insB x k [constI r n])))
    (hPl : P ≤ 4) (hO : OkB B) (hR : RegL B) (hck : checkM (P : Int) (V : Int) B = (0, 0, 0)) (hB : 1 ≤ B.length ∧ B.length ≤ 16) (hPV : P ≤ V ∧ V ≤ 32) (hx : B[i]? = some x) (hk : k ≤ x.ins.length) (hxl : x.ins.length ≤ 31) (hr : r < V) (K : Solved (flV B) Ls) (hf : fromP B Ls i k r = false) :
    holds Tryd.prog (Ret fun r h' => h0.le h' ∧ r = .bool true) (finG a) G L h := by
  subst hG
  have hKd : KindB B := fun b hb => by
    obtain ⟨-, -, k3⟩ := checkM_zeroR (p := P) (n := V) (bs := B) (by rw [hck])
    obtain ⟨q1, q2, q3⟩ := k3 b hb
    refine ⟨endM_kind q3, fun x hx => ?_⟩
    have := q2 x hx
    unfold ofM at this
    split at this
    · cases this
    · rename_i h
      exact Classical.not_not.1 fun q => h (.inl q)
  have lo : ∀ {j : Nat}, j ≤ 18 → ∀ D, gv (G ++ D) j = gv G j := fun hj D => gv_of_lt (by omega)
  obtain ⟨e4, e5, e6, e7, e13, e14, e15, e16, e17, e18⟩ := e
  refine h_call0 (Q := fun r h' => ∃ u m' n', r = .agg #[u, m', n', .int .i64 (fuelM fuel)] ∧ h.le h' ∧ IntsAt h' u (inArgs args P) ∧ IntsAt h' m' (mem.take 100) ∧ IntsAt h' n' (ans.take 100)) ?_ ?_
  · have := s36 (p := P) (fuel := fuel) ha hm hn (by omega)
    simp only [SV.denL, SV.den, X.den]
    rw [e4, e5, e6, e7, e13]
    exact this
  rintro _ g6 ⟨u', m', n', rfl, hl6, iu, im, inn⟩
  refine ⟨[u', m', n', .int .i64 (fuelM fuel)], ⟨iu.fit, im.fit, inn.fit, ⟨_, rfl⟩, trivial⟩, rfl, ?_⟩
  have hfr := fuelM_range fuel
  have hal := inArgs_len args P
  generalize inArgs args P = A0 at iu hal
  obtain ⟨A, hA⟩ : ∃ A, A = G ++ [u', m', n', .int .i64 (fuelM fuel)] := ⟨_, rfl⟩
  rw [← hA]
  have hAl : A.length = G.length + 4 := by rw [hA]; simp
  have hin : ∀ D : List Value, gv (A ++ D) (G.length + 0) = u' ∧ gv (A ++ D) (G.length + 1) = m' ∧ gv (A ++ D) (G.length + 2) = n' ∧ gv (A ++ D) (G.length + 3) = .int .i64 (fuelM fuel) := fun D => by
    rw [hA, List.append_assoc]
    exact ⟨gv_at (j := 0) rfl, gv_at (j := 1) rfl, gv_at (j := 2) rfl, gv_at (j := 3) rfl⟩
  have z : ∀ D : List Value, gv (A ++ D) 13 = .int .i64 (P : Int) ∧ gv (A ++ D) 14 = .int .i64 (V : Int) ∧ gv (A ++ D) 15 = u ∧ gv (A ++ D) 16 = .int .i64 (P : Int) ∧ gv (A ++ D) 17 = .int .i64 (V : Int) ∧ gv (A ++ D) 18 = v := fun D => by
    rw [hA, List.append_assoc]
    exact ⟨(lo (by omega) _).trans e13, (lo (by omega) _).trans e14, (lo (by omega) _).trans e15, (lo (by omega) _).trans e16, (lo (by omega) _).trans e17, (lo (by omega) _).trans e18⟩
  refine h_callO2 (Q := fun t e h' => g6.le h' ∧ CallsOk t ∧ RunSpec P V B A0 (mem.take 100) (ans.take 100) (fuelM fuel) e t) ?_ ?_
  · have := s37 (p := P) (n := V) (fuel := fuelM fuel) (SlAt.le blkC_mono hl6 hu) iu im inn
    obtain ⟨x1, x2, x3, x4⟩ := hin []
    obtain ⟨y1, y2, y3, -⟩ := z []
    rw [List.append_nil] at x1 x2 x3 x4 y1 y2 y3
    simp only [SV.denL, SV.den, X.den]
    rw [x1, x2, x3, x4, y1, y2, y3]
    exact this.post fun r h' q => q
  rintro t er cv g7 m1 cc1 ⟨hl7, hco, hsp⟩
  obtain ⟨rfl, hrun⟩ := run_made hck hfr hal hsp
  refine h_callO2 (Q := fun t2 e2 h' => g7.le h' ∧ CallsOk t2 ∧ RunSpec P V (B.set i (insB x k [constI r n])) A0 (mem.take 100) (ans.take 100) (2 * fuelM fuel + 2) e2 t2) ?_ ?_
  · have := s37 (p := P) (n := V) (fuel := 2 * fuelM fuel + 2) (SlAt.le blkC_mono (hl6.trans hl7) hv) (iu.le hl7) (im.le hl7) (inn.le hl7)
    obtain ⟨x1, x2, x3, x4⟩ := hin (outC t cv ++ [.int .i64 0])
    obtain ⟨-, -, -, y5, y6, y7⟩ := z (outC t cv ++ [.int .i64 0])
    simp only [SV.denL, SV.den, X.den]
    rw [x1, x2, x3, x4, y5, y6, y7]
    simp only [vi_int, fuel2 hfr]
    exact this.post fun r h' q => q
  rintro t2 e2 cv2 g8 m2 cc2 ⟨hl8, hco2, hsp2⟩
  obtain ⟨-, -, hpart⟩ := checkM_zeroR (p := P) (n := V) (bs := B) (by rw [hck])
  obtain ⟨hx1, hx2, hx3⟩ := hpart x (List.mem_of_getElem? hx)
  have hck2 : checkM (P : Int) (V : Int) (B.set i (insB x k [constI r n])) = (0, 0, 0) := by
    unfold checkM
    rw [if_neg (by rw [List.length_set]; omega), List.length_set]
    refine blkF_ok fun zb hz => ?_
    rcases List.mem_or_eq_of_mem_set hz with q | rfl
    · exact hpart zb q
    · refine ⟨?_, fun y hy => ?_, hx3⟩
      · simp only [insB, List.length_append, List.length_take, List.length_drop, List.length_cons, List.length_nil]; omega
      · simp only [insB, List.mem_append, List.mem_cons, List.not_mem_nil, or_false] at hy
        rcases hy with (q | rfl) | q
        · exact hx2 y (List.mem_of_mem_take q)
        · exact const_ok hr
        · exact hx2 y (List.mem_of_mem_drop q)
  obtain ⟨rfl, hrun2⟩ := run_madeF hck2 (by omega) hal hsp2
  have eG : A ++ (outC t cv ++ [Value.int .i64 0]) ++ (outC t2 cv2 ++ [.int .i64 0]) = A ++ (outC t cv ++ ([.int .i64 0] ++ (outC t2 cv2 ++ [.int .i64 0]))) := by simp
  have hAl2 : (A ++ (outC t cv ++ [Value.int .i64 0])).length = G.length + 73 := by simp [hAl, outC_len m1]
  have f1 : gv (A ++ (outC t cv ++ [Value.int .i64 0]) ++ (outC t2 cv2 ++ [.int .i64 0])) (G.length + 72) = .int .i64 0 := by
    rw [eG, show G.length + 72 = (G.length + 4) + 68 + 0 by omega, gOe (j := 0) hAl m1]; rfl
  have f2 : gv (A ++ (outC t cv ++ [Value.int .i64 0]) ++ (outC t2 cv2 ++ [.int .i64 0])) (G.length + 141) = .int .i64 0 := by
    rw [show G.length + 141 = (G.length + 73) + 68 + 0 by omega, gOe (j := 0) hAl2 m2]; rfl
  have f3 : gv (A ++ (outC t cv ++ [Value.int .i64 0]) ++ (outC t2 cv2 ++ [.int .i64 0])) (G.length + 4) = .int .i64 t.how := by
    rw [eG, show G.length + 4 = (G.length + 4) + 0 by omega, gO (i := 0) hAl m1 (by omega)]; rfl
  have le8 : h0.le g8 := ((hle.trans hl6).trans hl7).trans hl8
  refine iteF ?_ (h_ite (fun _ => ⟨rfl, le8, rfl⟩) (fun h3 => ?_))
  · simp only [X.den, f1, f2, vi_int, cmp_neq]; simp
  have hw : t.how ≠ 3 := by
    simp only [X.den, f3, vi_int, vb_bool, cmp_eql, decide_eq_false_iff_not] at h3; exact h3
  obtain ⟨t', q1, q2⟩ := given_start (n := n) hO hR hKd K hx hk hf hrun hw (by show 0 ≤ fuelM fuel; omega) (m := fuelM fuel + 2) (by show fuelM fuel + 2 ≤ _; omega)
  have hst : addL (start V 0 A0 (mem.take 100) (ans.take 100) (fuelM fuel)) (fuelM fuel + 2) = start V 0 A0 (mem.take 100) (ans.take 100) (2 * fuelM fuel + 2) := by
    unfold addL start
    simp only [Rs.mk.injEq, and_true, true_and]
    omega
  rw [hst] at q1
  have := q1.same hrun2
  subst this
  have d1 : ∀ E : Nat → CE, SV.denL (A ++ (outC t cv ++ [Value.int .i64 0]) ++ (outC t' cv2 ++ [.int .i64 0])) E (l0 (G.length + 4)) = outC { t with left := 0 } cv := fun E => by
    show SV.denL _ E (Sh.svs (G.length + 4) outSh0 ++ [.int .i64 (.lit 0)]) = outC0 t cv ++ [.int .i64 0]
    rw [denL_app2]
    congr 1
    have : A ++ (outC t cv ++ [Value.int .i64 0]) ++ (outC t' cv2 ++ [.int .i64 0]) = A ++ outC0 t cv ++ ([.int .i64 t.left] ++ ([Value.int .i64 0] ++ (outC t' cv2 ++ [.int .i64 0]))) := by rw [outC_eq]; simp
    rw [this]
    exact den_part (outC0_fit m1 cc1.fit) (by rw [hAl])
  have d2 : ∀ E : Nat → CE, SV.denL (A ++ (outC t cv ++ [Value.int .i64 0]) ++ (outC t' cv2 ++ [.int .i64 0])) E (l0 (G.length + 73)) = outC { t' with left := 0 } cv2 := fun E => by
    show SV.denL _ E (Sh.svs (G.length + 73) outSh0 ++ [.int .i64 (.lit 0)]) = outC0 t' cv2 ++ [.int .i64 0]
    rw [denL_app2]
    congr 1
    have : A ++ (outC t cv ++ [Value.int .i64 0]) ++ (outC t' cv2 ++ [.int .i64 0]) = (A ++ (outC t cv ++ [Value.int .i64 0])) ++ outC0 t' cv2 ++ ([.int .i64 t'.left] ++ [Value.int .i64 0]) := by rw [outC_eq (s := t')]; simp
    rw [this]
    exact den_part (outC0_fit m2 cc2.fit) (by rw [hAl2])
  refine h_call0 (Q := fun r h' => h' = g8 ∧ r = .bool true) ?_ ?_
  · have := s38 (h := g8) (s := { t with left := 0 }) (t := { t' with left := 0 }) ⟨cv, rfl, m1, SlAt.le callC_mono hl8 cc1⟩ ⟨cv2, rfl, m2, cc2⟩ ⟨q2.1, q2.2.1, q2.2.2.1, q2.2.2.2, rfl⟩ hco
    simp only [SV.denL, SV.den, d1, d2]
    exact this
  rintro _ _ ⟨rfl, rfl⟩
  refine ⟨[.bool true], ⟨⟨_, rfl⟩, trivial⟩, rfl, rfl, le8, ?_⟩
  have hGl : (A ++ (outC t cv ++ [Value.int .i64 0]) ++ (outC t' cv2 ++ [Value.int .i64 0])).length = G.length + 142 := by simp [hAl, outC_len m1, outC_len m2]
  simp only [SV.den, X.den]
  rw [gv_at (j := 0) (by omega)]; rfl
end Go.Proofs.YtbbicdfipheaeaaDoor
