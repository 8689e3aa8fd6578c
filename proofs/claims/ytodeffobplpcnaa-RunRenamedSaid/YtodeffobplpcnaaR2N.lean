/-
  Two runs, one behind the other: words for the laws of runs. Conditions: none.
-/
import Derived.Test.YtodeffobplpcnaaPc
import Derived.Test.YtodeffobplpcnaaR2M
set_option linter.unusedVariables false
set_option linter.unusedSimpArgs false
namespace Go.Proofs.Ytodeffobplpcnaa
open Go

theorem denL_app {G : List Value} {E : Nat → CE} (a b : List SV) : SV.denL G E (a ++ b) = SV.denL G E a ++ SV.denL G E b := by simp [SV.denL_eq]
def outSh0 : List Sh := .int .i64 :: .int .i64 :: .sl :: List.replicate 64 (.int .i64)
def outC0 (s : Rs) (cv : Value) : List Value := .int .i64 s.how :: .int .i64 s.value :: cv :: s.mem.map (.int .i64)
theorem outC0_fit {s : Rs} {cv : Value} (hm : s.mem.length = 64) (hc : Fits .sl cv) : FitsL outSh0 (outC0 s cv) := by
  refine ⟨⟨_, rfl⟩, ⟨_, rfl⟩, hc, ?_⟩
  have := fits_ints s.mem [] [] trivial
  rw [hm] at this; simpa using this
theorem outC_eq {s : Rs} {cv : Value} : outC s cv = outC0 s cv ++ [.int .i64 s.left] := rfl
/-- As run_made, with more fuel. -/
theorem run_madeF {P V : Nat} {bs : List Blk} {args mem ans : List Int} {fuel e : Int} {t : Rs} (hck : checkM (P : Int) (V : Int) bs = (0, 0, 0)) (hf : 0 ≤ fuel ∧ fuel ≤ 10000) (ha : args.length = P) (h : RunSpec P V bs args mem ans fuel e t) :
    e = 0 ∧ Runs bs V 0 0 (start V 0 args mem ans fuel) t := by
  unfold RunSpec at h
  rw [if_neg (by rw [hck]; simp), if_neg (by rw [input_ok ha (by omega)]; simp), Int.toNat_natCast] at h
  exact h
/-- Two outputs with their errors, both none. -/
theorem two_ok {G : List Value} {i j : Nat} (e1 : gv G i = .int .i64 0) (e2 : gv G j = .int .i64 0) : vb ((X.ite (.cmp .neq (.var i) (.lit 0)) (.tt true) (.cmp .neq (.var j) (.lit 0))).den G) = false := by
  simp [X.den, e1, e2, vb_ite, cmp_neq]
theorem both_ok {G : List Value} {i j : Nat} (e1 : gv G i = .int .i64 0) (e2 : gv G j = .int .i64 0) : vb ((X.ite (.cmp .eql (.var i) (.lit 0)) (.cmp .eql (.var j) (.lit 0)) (.tt false)).den G) = true := by
  simp [X.den, e1, e2, vb_ite, cmp_eql]
/-- The output that says nothing. -/
def zsv : List SV := .int .i64 (.lit 0) :: .int .i64 (.lit 0) :: .cst (.slice none 0 0) :: List.replicate 65 (.int .i64 (.lit 0))
theorem zsv_den {G : List Value} {E : Nat → CE} : SV.denL G E zsv = outC zeroRs (.slice none 0 0) := rfl
theorem h_sameZ {R : Value → List (List Value) → H → Prop} {A D G : List Value} {t : Rs} {cv : Value} {L : Lv} {h : H} {k : Out} {l1 l2 : List SV} (hG : G = A ++ (outC t cv ++ D)) (m1 : t.mem.length = 64) (c1 : CallsAt h cv t.calls) (ht : t = zeroRs)
    (hl1 : l1 = Sh.svs A.length outSh) (hl2 : l2 = zsv) (hk : holds Try.prog R k (G ++ [.bool true]) L h) :
    holds Try.prog R (.call 19 [.agg l1, .agg l2] [] [] [] [(false, [.bool])] k) G L h := by
  have d1 : ∀ E : Nat → CE, SV.denL G E l1 = outC t cv := fun E => by
    rw [hG, ← List.append_assoc]
    exact den_part (outC_fit m1 c1.fit) hl1
  have d2 : ∀ E : Nat → CE, SV.denL G E l2 = outC zeroRs (.slice none 0 0) := fun E => by rw [hl2]; exact zsv_den
  refine h_call0 (Q := fun r h' => h' = h ∧ r = .bool true) ?_ ?_
  · have := s19 (h := h) (s := t) (t := zeroRs) ⟨cv, rfl, m1, c1⟩ zeroRs_at (by rw [ht]; exact ⟨rfl, rfl, rfl, rfl, rfl⟩) (by rw [ht]; exact zero_ok)
    simp only [SV.denL, SV.den, d1, d2]
    exact this
  · rintro _ _ ⟨rfl, rfl⟩
    exact ⟨[.bool true], ⟨⟨_, rfl⟩, trivial⟩, rfl, hk⟩
/-- What a right function and a right input give. -/
theorem run_parts {p n fuel : Int} {bs : List Blk} {len : Nat} (hc : (checkM p n bs).1 = 0) (hd : inputM p len fuel = 0) : ∃ N : Nat, n = (N : Int) ∧ (len : Int) = p ∧ p ≤ n ∧ n ≤ 32 ∧ 0 ≤ fuel ∧ fuel ≤ 1048576 ∧
    (∀ x ∈ bs, BlOk (N : Int) ((N + 0 : Nat) : Int) bs.length x) ∧ 1 ≤ bs.length ∧ bs.length ≤ 16 := by
  obtain ⟨k1, k2, k3⟩ := checkM_zeroR hc
  have hrange : 0 ≤ p ∧ p ≤ n ∧ n ≤ 32 := by unfold checkM at hc; split at hc <;> simp_all <;> omega
  have hin : (len : Int) = p ∧ 0 ≤ fuel ∧ fuel ≤ 1048576 := by unfold inputM at hd; grind
  obtain ⟨N, rfl⟩ : ∃ N : Nat, n = (N : Int) := ⟨n.toNat, by omega⟩
  refine ⟨N, rfl, hin.1, hrange.2.1, hrange.2.2, hin.2.1, hin.2.2, fun x hx => ?_, k1, k2⟩
  obtain ⟨q1, q2, q3⟩ := k3 x hx
  exact bl_ir (by omega) q2 q3 (Nat.le_refl _) (by omega)
theorem RunSpec.bad {p n : Int} {bs : List Blk} {args mem ans : List Int} {fuel e : Int} {t : Rs} (hc : (checkM p n bs).1 ≠ 0) (h : RunSpec p n bs args mem ans fuel e t) : e = 30 ∧ t = zeroRs := by
  unfold RunSpec at h; rw [if_pos hc] at h; exact h
theorem RunSpec.bad2 {p n : Int} {bs : List Blk} {args mem ans : List Int} {fuel e : Int} {t : Rs} (hc : (checkM p n bs).1 = 0) (hd : inputM p args.length fuel ≠ 0) (h : RunSpec p n bs args mem ans fuel e t) : e = inputM p args.length fuel ∧ t = zeroRs := by
  unfold RunSpec at h; rw [if_neg (by simpa using hc), if_pos hd] at h; exact h
theorem RunSpec.good {p n : Int} {bs : List Blk} {args mem ans : List Int} {fuel e : Int} {t : Rs} (hc : (checkM p n bs).1 = 0) (hd : inputM p args.length fuel = 0) (h : RunSpec p n bs args mem ans fuel e t) : e = 0 ∧ Runs bs n 0 0 (start n.toNat 0 args mem ans fuel) t := by
  unfold RunSpec at h; rw [if_neg (by simpa using hc), if_neg (by simpa using hd)] at h; exact h
theorem ExecSpec.bad {p r s : Int} {bs : List Blk} {args mem ans : List Int} {fuel e : Int} {t : Rs} (hc : (mcheckM p r s bs).1 ≠ 0) (h : ExecSpec p r s bs args mem ans fuel e t) : e = 30 ∧ t = zeroRs := by
  unfold ExecSpec at h; rw [if_pos hc] at h; exact h
theorem ExecSpec.bad2 {p r s : Int} {bs : List Blk} {args mem ans : List Int} {fuel e : Int} {t : Rs} (hc : (mcheckM p r s bs).1 = 0) (hd : inputM p args.length fuel ≠ 0) (h : ExecSpec p r s bs args mem ans fuel e t) : e = inputM p args.length fuel ∧ t = zeroRs := by
  unfold ExecSpec at h; rw [if_neg (by simpa using hc), if_pos hd] at h; exact h
theorem ExecSpec.good {p r s : Int} {bs : List Blk} {args mem ans : List Int} {fuel e : Int} {t : Rs} (hc : (mcheckM p r s bs).1 = 0) (hd : inputM p args.length fuel = 0) (h : ExecSpec p r s bs args mem ans fuel e t) : e = 0 ∧ Runs bs r 0 0 (start (r.toNat + s.toNat) r.toNat args mem ans fuel) t := by
  unfold ExecSpec at h; rw [if_neg (by simpa using hc), if_neg (by simpa using hd)] at h; exact h
theorem exec_parts {p r s fuel : Int} {bs : List Blk} {len : Nat} (hc : (mcheckM p r s bs).1 = 0) (hd : inputM p len fuel = 0) : ∃ N S : Nat, r = (N : Int) ∧ s = (S : Int) ∧ (len : Int) = p ∧ p ≤ s ∧ 3 ≤ N ∧ N ≤ 8 ∧ S ≤ 64 ∧ 0 ≤ fuel ∧ fuel ≤ 1048576 ∧
    (∀ x ∈ bs, BlOk (N : Int) ((N + S : Nat) : Int) bs.length x) ∧ 1 ≤ bs.length ∧ bs.length ≤ 16 := by
  obtain ⟨k0, k1, k2, k3⟩ := mcheck_zeroR hc
  have hin : (len : Int) = p ∧ 0 ≤ fuel ∧ fuel ≤ 1048576 := by unfold inputM at hd; grind
  obtain ⟨N, rfl⟩ : ∃ N : Nat, r = (N : Int) := ⟨r.toNat, by omega⟩
  obtain ⟨S, rfl⟩ : ∃ S : Nat, s = (S : Int) := ⟨s.toNat, by omega⟩
  refine ⟨N, S, rfl, rfl, hin.1, by omega, by omega, by omega, by omega, hin.2.1, hin.2.2, fun x hx => ?_, k1, k2⟩
  obtain ⟨q1, q2, q3⟩ := k3 x hx
  exact bl_mach (by omega) (by omega) (by omega) (by omega) q2 q3
theorem neq_false {G : List Value} {i j : Nat} {c : Int} (e1 : gv G i = .int .i64 c) (e2 : gv G j = .int .i64 c) : vb ((X.cmp .neq (.var i) (.var j)).den G) = false := by
  simp [X.den, e1, e2, cmp_neq]
theorem same_true {G : List Value} {i j : Nat} {c : Int} (e1 : gv G i = .int .i64 c) (e2 : gv G j = .int .i64 c) : vb ((X.not (.cmp .neq (.var i) (.var j))).den G) = true := by
  simp [X.den, e1, e2, cmp_neq]
theorem same_lit {G : List Value} {i : Nat} {c : Int} (e1 : gv G i = .int .i64 c) : vb ((X.not (.cmp .neq (.var i) (.lit c))).den G) = true := by
  simp [X.den, e1, cmp_neq]
theorem neq_lit {G : List Value} {i : Nat} {c d : Int} (e1 : gv G i = .int .i64 c) : vb ((X.cmp .neq (.var i) (.lit d)).den G) = decide (c ≠ d) := by
  simp [X.den, e1, cmp_neq]
theorem over_cond {G : List Value} {i j : Nat} {c f : Int} (e1 : gv G i = .int .i64 c) (e2 : gv G j = .int .i64 f) : vb ((X.ite (.cmp .eql (.var i) (.lit 0)) (.cmp .gtr (.var j) (.lit 10000)) (.tt false)).den G) = (decide (c = 0) && decide (10000 < f)) := by
  simp only [X.den, e1, e2, vb_ite, vi_int, vb_bool, cmp_eql, cmp_gtr]
  by_cases h : c = 0 <;> simp [h]
theorem var_true {G : List Value} {i : Nat} (h : gv G i = .bool true) : vb ((X.var i).den G) = true := by simp only [X.den, h]; rfl
theorem not_true {G : List Value} {i : Nat} (h : gv G i = .bool true) : vb ((X.not (.var i)).den G) = false := by simp only [X.den, h]; rfl
theorem notor_true {G : List Value} {i : Nat} (h : gv G i = .bool true) : vb ((X.ite (.not (.var i)) (.tt true) (.tt false)).den G) = false := by simp only [X.den, h]; rfl
end Go.Proofs.Ytodeffobplpcnaa
