/-
  What a made function is, when run. Conditions: none (plain lemmas).
-/
import Derived.Test.YtbbicdfipheaeaaDoorRnJ
set_option linter.unusedVariables false
set_option linter.unusedSimpArgs false
namespace Go.Proofs.YtbbicdfipheaeaaDoor
open Go

theorem made_fun {p0 p1 p2 : Int} {l : List Int} (h0 : 0 ≤ p0) (h1 : 0 ≤ p1) (h2 : 0 ≤ p2) (hl : InB l) : ∃ P V : Nat, madeP p0 = (P : Int) ∧ madeV p0 p1 = (V : Int) ∧ P ≤ 4 ∧ V ≤ 31 ∧ P ≤ V ∧ checkM (P : Int) (V : Int) (madeB p0 p1 p2 l) = (0, 0, 0) ∧
    (∀ x ∈ madeB p0 p1 p2 l, BlOk (V : Int) ((V + 0 : Nat) : Int) (madeB p0 p1 p2 l).length x) ∧ 1 ≤ (madeB p0 p1 p2 l).length ∧ (madeB p0 p1 p2 l).length ≤ 16 := by
  have a := madeP_range h0
  have b := madeV_range h0 h1
  have c := madeN_range h2
  have hBl := madeB_len (p0 := p0) (p1 := p1) (l := l) h2
  have hck : checkM (madeP p0) (madeV p0 p1) (madeB p0 p1 p2 l) = (0, 0, 0) := made_ok (w := madeV p0 p1) h0 h1 h2 hl (Int.le_refl _) (by omega) (fun b hb => hb) (by omega) (by omega)
  obtain ⟨P, hP⟩ : ∃ P : Nat, madeP p0 = (P : Int) := ⟨(madeP p0).toNat, by omega⟩
  obtain ⟨V, hV⟩ : ∃ V : Nat, madeV p0 p1 = (V : Int) := ⟨(madeV p0 p1).toNat, by omega⟩
  rw [hP, hV] at hck
  refine ⟨P, V, hP, hV, by omega, by omega, by omega, hck, fun x hx => ?_, by omega, by omega⟩
  obtain ⟨k1, k2, k3⟩ := checkM_zeroR (p := P) (n := V) (bs := madeB p0 p1 p2 l) (by rw [hck])
  obtain ⟨q1, q2, q3⟩ := k3 x hx
  exact bl_ir (by omega) q2 q3 (Nat.le_refl _) (by omega)
theorem input_ok {p len : Nat} {fuel : Int} (h : len = p) (hf : 0 ≤ fuel ∧ fuel ≤ 1048576) : inputM p len fuel = 0 := by
  unfold inputM; rw [if_neg (by omega), if_neg (by omega)]
theorem run_made {P V : Nat} {bs : List Blk} {args mem ans : List Int} {fuel e : Int} {t : Rs} (hck : checkM (P : Int) (V : Int) bs = (0, 0, 0)) (hf : 0 ≤ fuel ∧ fuel < 400) (ha : args.length = P) (h : RunSpec P V bs args mem ans fuel e t) :
    e = 0 ∧ Runs bs V 0 0 (start V 0 args mem ans fuel) t := by
  unfold RunSpec at h
  rw [if_neg (by rw [hck]; simp), if_neg (by rw [input_ok ha (by omega)]; simp), Int.toNat_natCast] at h
  exact h
/-- Two outputs that are the same, compared. -/
theorem h_same {R : Value → List (List Value) → H → Prop} {A M D G : List Value} {t t' : Rs} {cv cv' : Value} {L : Lv} {h : H} {k : Out} {l1 l2 : List SV} (hG : G = A ++ (outC t cv ++ (M ++ (outC t' cv' ++ D)))) (m1 : t.mem.length = 64) (m2 : t'.mem.length = 64) (c1 : CallsAt h cv t.calls) (c2 : CallsAt h cv' t'.calls) (hs : SameO t t') (hco : CallsOk t)
    (hl1 : l1 = Sh.svs A.length outSh) (hl2 : l2 = Sh.svs (A.length + 68 + M.length) outSh) (hk : holds Tryd.prog R k (G ++ [.bool true]) L h) :
    holds Tryd.prog R (.call 38 [.agg l1, .agg l2] [] [] [] [(false, [.bool])] k) G L h := by
  have d1 : ∀ E : Nat → CE, SV.denL G E l1 = outC t cv := fun E => by
    rw [hG, ← List.append_assoc]
    exact den_part (outC_fit m1 c1.fit) hl1
  have d2 : ∀ E : Nat → CE, SV.denL G E l2 = outC t' cv' := fun E => by
    have e : G = (A ++ (outC t cv ++ M)) ++ outC t' cv' ++ D := by rw [hG]; simp
    rw [e]
    exact den_part (outC_fit m2 c2.fit) (by rw [hl2, List.length_append, List.length_append, outC_len m1, Nat.add_assoc])
  refine h_call0 (Q := fun r h' => h' = h ∧ r = .bool true) ?_ ?_
  · have := s38 (h := h) ⟨cv, rfl, m1, c1⟩ ⟨cv', rfl, m2, c2⟩ hs hco
    simp only [SV.denL, SV.den, d1, d2]
    exact this
  · rintro _ _ ⟨rfl, rfl⟩
    exact ⟨[.bool true], ⟨⟨_, rfl⟩, trivial⟩, rfl, hk⟩
theorem gO {A B : List Value} {t : Rs} {cv : Value} {a i : Nat} (ha : A.length = a) (hm : t.mem.length = 64) (hi : i < 68) : gv (A ++ (outC t cv ++ B)) (a + i) = gv (outC t cv) i := by
  rw [gv_at (j := i) (by omega), gv_of_lt (by rw [outC_len hm]; exact hi)]
theorem gOe {A B : List Value} {t : Rs} {cv : Value} {a j : Nat} (ha : A.length = a) (hm : t.mem.length = 64) : gv (A ++ (outC t cv ++ B)) (a + 68 + j) = gv B j := by
  rw [gv_at (j := 68 + j) (by omega), gv_at (j := j) (by rw [outC_len hm])]
theorem both_ok {G : List Value} {i j : Nat} (e1 : gv G i = .int .i64 0) (e2 : gv G j = .int .i64 0) : vb ((X.ite (.cmp .eql (.var i) (.lit 0)) (.cmp .eql (.var j) (.lit 0)) (.tt false)).den G) = true := by
  simp [X.den, e1, e2, vb_ite, cmp_eql]
theorem run_madeF {P V : Nat} {bs : List Blk} {args mem ans : List Int} {fuel e : Int} {t : Rs} (hck : checkM (P : Int) (V : Int) bs = (0, 0, 0)) (hf : 0 ≤ fuel ∧ fuel ≤ 10000) (ha : args.length = P) (h : RunSpec P V bs args mem ans fuel e t) :
    e = 0 ∧ Runs bs V 0 0 (start V 0 args mem ans fuel) t := by
  unfold RunSpec at h
  rw [if_neg (by rw [hck]; simp), if_neg (by rw [input_ok ha (by omega)]; simp), Int.toNat_natCast] at h
  exact h
end Go.Proofs.YtbbicdfipheaeaaDoor
