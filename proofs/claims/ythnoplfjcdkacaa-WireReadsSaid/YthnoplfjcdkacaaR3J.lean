/-
  What the program reads: an instruction, an end, blocks, a function, code. Conditions: as each contract says.
-/
import Derived.Test.YthnoplfjcdkacaaR3I
import Derived.Test.YthnoplfjcdkacaaR3E
set_option linter.unusedVariables false
set_option linter.unusedSimpArgs false
namespace Go.Proofs.Ythnoplfjcdkacaa
open Go

section
variable {g h : H} {b : Nat} {s : RS}
def InsQ (g h : H) (b : Nat) (x : Ins) (s' : RS) : Value → List (List Value) → H → Prop := Ret fun r h' => Rdr g h' b s' ∧ KeptH h h' [b] ∧ ∃ q fp, r = .agg (insC x q).toArray ∧ InsF h' (insC x q) x fp ∧ Fresh h fp ∧ fp.Nodup
theorem insQ_nil {x : Ins} {s' : RS} {h' : H} {r : Value} (ha : x.args = []) (k : Rdr g h' b s') (hk : KeptH h h' [b]) (hr : r = .agg (insC x (.slice none 0 0)).toArray) : InsQ g h b x s' r [] h' :=
  ⟨rfl, k, hk, .slice none 0 0, [], hr, ⟨_, rfl, .inl ⟨rfl, by rw [ha]; rfl, rfl⟩⟩, (fun b hb => by cases hb), List.nodup_nil⟩
theorem s68 (k : Rdr g h b s) (hl : s.1.length ≤ 1000000000) : CallsA Try.prog 68 (fun _ => [ptrB b]) [] h (InsQ g h b (insR s).1 (insR s).2) := by
  refine c68 (G := [ptrB b]) ⟨⟨_, rfl⟩, trivial⟩ ?_
  have bl := fun n s => belowR_len n s
  refine below_step (n := 256) rfl rfl (by omega) (by omega) k hl fun h1 k1 hk1 => ?_
  obtain ⟨kd, hkd⟩ : ∃ kd, kd = (belowR 256 s).1 := ⟨_, rfl⟩
  obtain ⟨s1, hs1⟩ : ∃ s1, s1 = (belowR 256 s).2 := ⟨_, rfl⟩
  have hr0 := belowR_range 256 s
  have hl1 : s1.1.length ≤ 1000000000 := by rw [hs1]; have := bl 256 s; omega
  rw [← hkd] at hr0 ⊢
  rw [← hs1] at k1
  have hw : IntKind.u8.wrap kd = kd := wrap_u8 (by omega) (by omega)
  have cc : ∀ m : Int, cmpOp .eql (IntKind.u8.wrap kd) m = decide (kd = m) := fun m => by rw [hw, cmp_eql]
  simp only [List.cons_append, List.nil_append]
  refine h_ite (fun hc => ?_) (fun hc => h_ite (fun hc2 => ?_) (fun hc2 => h_ite (fun hc3 => ?_) (fun hc3 => h_ite (fun hc4 => ?_) (fun hc4 => h_ite (fun hc5 => ?_) (fun hc5 => ?_)))))
  · replace hc : cmpOp .eql (IntKind.u8.wrap kd) 1 = true := hc
    rw [cc, decide_eq_true_eq] at hc
    have e : insR s = (⟨1, 0, (belowR 4096 s1).1, 0, 0, (intR (belowR 4096 s1).2).1, []⟩, (intR (belowR 4096 s1).2).2) := by
      unfold insR; simp only [← hkd, ← hs1]; rw [if_pos hc]
    rw [e]
    refine num_step rfl rfl k1 hl1 fun h2 k2 hk2 => ?_
    simp only [List.cons_append, List.nil_append]
    refine read_int rfl k2 (by have := bl 4096 s1; omega) fun h3 k3 hk3 => ?_
    refine insQ_nil rfl k3 ((hk1.trans hk2).trans hk3) ?_
    show Value.agg #[.int .u8 (IntKind.u8.wrap kd), .int .u8 0, .int .i64 _, .int .i64 0, .int .i64 0, .int .i64 _, .slice none 0 0] = _
    rw [hw, hc]; rfl
  all_goals (replace hc : cmpOp .eql (IntKind.u8.wrap kd) 1 = false := hc; rw [cc, decide_eq_false_iff_not] at hc)
  · have hc2' : kd = 2 ∨ kd = 4 ∨ kd = 7 ∨ kd = 8 := by
      simp only [X.den, gv_zero, gv_succ, vi_int, vb_bool, vb_ite, cc] at hc2
      simp at hc2
      omega
    have e : insR s = (⟨kd, 0, (belowR 4096 s1).1, (belowR 4096 (belowR 4096 s1).2).1, 0, 0, []⟩, (belowR 4096 (belowR 4096 s1).2).2) := by
      unfold insR; simp only [← hkd, ← hs1]; rw [if_neg hc, if_pos hc2']
    rw [e]
    refine num_step rfl rfl k1 hl1 fun h2 k2 hk2 => ?_
    simp only [List.cons_append, List.nil_append]
    refine num_step rfl rfl k2 (by have := bl 4096 s1; omega) fun h3 k3 hk3 => ?_
    refine insQ_nil rfl k3 ((hk1.trans hk2).trans hk3) ?_
    show Value.agg #[.int .u8 (IntKind.u8.wrap kd), .int .u8 0, .int .i64 _, .int .i64 _, .int .i64 0, .int .i64 0, .slice none 0 0] = _
    rw [hw]; rfl
  all_goals (replace hc2 : ¬ (kd = 2 ∨ kd = 4 ∨ kd = 7 ∨ kd = 8) := by (simp only [X.den, gv_zero, gv_succ, vi_int, vb_bool, vb_ite, cc] at hc2; simp at hc2; omega))
  · replace hc3 : cmpOp .eql (IntKind.u8.wrap kd) 3 = true := hc3
    rw [cc, decide_eq_true_eq] at hc3
    obtain ⟨o, ho⟩ : ∃ o, o = (belowR 256 s1).1 := ⟨_, rfl⟩
    obtain ⟨s2, hs2⟩ : ∃ s2, s2 = (belowR 256 s1).2 := ⟨_, rfl⟩
    have hl2 : s2.1.length ≤ 1000000000 := by rw [hs2]; have := bl 256 s1; omega
    have hro := belowR_range 256 s1
    rw [← ho] at hro
    have e : insR s = (⟨3, o, (belowR 4096 s2).1, (belowR 4096 (belowR 4096 s2).2).1, (belowR 4096 (belowR 4096 (belowR 4096 s2).2).2).1, 0, []⟩, (belowR 4096 (belowR 4096 (belowR 4096 s2).2).2).2) := by
      unfold insR; simp only [← hkd, ← hs1, ← hs2, ← ho]; rw [if_neg hc, if_neg hc2, if_pos hc3]
    rw [e]
    refine below_step (n := 256) rfl rfl (by omega) (by omega) k1 hl1 fun h2 k2 hk2 => ?_
    rw [← ho]
    rw [← hs2] at k2
    simp only [List.cons_append, List.nil_append]
    have t1 := bl 4096 s2
    have t2 := bl 4096 (belowR 4096 s2).2
    refine num_step rfl rfl k2 hl2 fun h3 k3 hk3 => ?_
    simp only [List.cons_append, List.nil_append]
    refine num_step rfl rfl k3 (by omega) fun h4 k4 hk4 => ?_
    simp only [List.cons_append, List.nil_append]
    refine num_step rfl rfl k4 (by omega) fun h5 k5 hk5 => ?_
    refine insQ_nil rfl k5 ((((hk1.trans hk2).trans hk3).trans hk4).trans hk5) ?_
    show Value.agg #[.int .u8 (IntKind.u8.wrap kd), .int .u8 (IntKind.u8.wrap o), .int .i64 _, .int .i64 _, .int .i64 _, .int .i64 0, .slice none 0 0] = _
    rw [hw, hc3, wrap_u8 (n := o) (by omega) (by omega)]; rfl
  all_goals (replace hc3 : cmpOp .eql (IntKind.u8.wrap kd) 3 = false := hc3; rw [cc, decide_eq_false_iff_not] at hc3)
  · replace hc4 : cmpOp .eql (IntKind.u8.wrap kd) 5 = true := hc4
    rw [cc, decide_eq_true_eq] at hc4
    have e : insR s = (⟨5, 0, 0, (belowR 4096 s1).1, (belowR 4096 (belowR 4096 s1).2).1, 0, []⟩, (belowR 4096 (belowR 4096 s1).2).2) := by
      unfold insR; simp only [← hkd, ← hs1]; rw [if_neg hc, if_neg hc2, if_neg hc3, if_pos hc4]
    rw [e]
    refine num_step rfl rfl k1 hl1 fun h2 k2 hk2 => ?_
    simp only [List.cons_append, List.nil_append]
    refine num_step rfl rfl k2 (by have := bl 4096 s1; omega) fun h3 k3 hk3 => ?_
    refine insQ_nil rfl k3 ((hk1.trans hk2).trans hk3) ?_
    show Value.agg #[.int .u8 (IntKind.u8.wrap kd), .int .u8 0, .int .i64 0, .int .i64 _, .int .i64 _, .int .i64 0, .slice none 0 0] = _
    rw [hw, hc4]; rfl
  all_goals (replace hc4 : cmpOp .eql (IntKind.u8.wrap kd) 5 = false := hc4; rw [cc, decide_eq_false_iff_not] at hc4)
  · replace hc5 : cmpOp .eql (IntKind.u8.wrap kd) 6 = true := hc5
    rw [cc, decide_eq_true_eq] at hc5
    obtain ⟨s2, hs2⟩ : ∃ s2, s2 = (intR (belowR 4096 s1).2).2 := ⟨_, rfl⟩
    obtain ⟨c, hcd⟩ : ∃ c, c = (belowR 4 s2).1 := ⟨_, rfl⟩
    obtain ⟨s3, hs3⟩ : ∃ s3, s3 = (belowR 4 s2).2 := ⟨_, rfl⟩
    have hrc := belowR_range 4 s2
    rw [← hcd] at hrc
    obtain ⟨cn, rfl⟩ : ∃ cn : Nat, c = (cn : Int) := ⟨c.toNat, by omega⟩
    have hcn : cn ≤ 3 := by omega
    have e : insR s = (⟨6, 0, (belowR 4096 s1).1, 0, 0, (intR (belowR 4096 s1).2).1, (argsR cn s3).1⟩, (argsR cn s3).2) := by
      unfold insR; simp only [← hkd, ← hs1, ← hs2, ← hcd, ← hs3]; rw [if_neg hc, if_neg hc2, if_neg hc3, if_neg hc4, if_pos hc5]; simp
    rw [e]
    have t1 := bl 4096 s1
    have t2 := intR_len (belowR 4096 s1).2
    have t3 := bl 4 s2
    rw [← hs2] at t2
    rw [← hs3] at t3
    refine num_step rfl rfl k1 hl1 fun h2 k2 hk2 => ?_
    simp only [List.cons_append, List.nil_append]
    refine read_int rfl k2 (by omega) fun h3 k3 hk3 => ?_
    rw [← hs2] at k3
    simp only [List.cons_append, List.nil_append]
    refine below_step (n := 4) rfl rfl (by omega) (by omega) k3 (by omega) fun h4 k4 hk4 => ?_
    rw [← hs3] at k4
    rw [← hcd]
    simp only [List.cons_append, List.nil_append]
    have hk04 := ((hk1.trans hk2).trans hk3).trans hk4
    refine h_loop (fun xs h' => ∃ (i : Nat) (q : Value) (fp : List Nat), xs = [.int .i64 (i : Int), q, ptrB b] ∧ i ≤ cn ∧ Rdr g h' b (argsR i s3).2 ∧ RowF h' 3 1 q ((argsR i s3).1.map (.int .i64)) fp ∧ Fresh h fp ∧ fp.Nodup ∧ KeptH h h' [b])
      (fun xs h' => cn - (vi (gv xs 0)).toNat) ⟨0, .slice none 0 0, [], rfl, Nat.zero_le _, k4, .inl ⟨rfl, rfl, rfl⟩, (fun b hb => by cases hb), List.nodup_nil, hk04⟩ ?_
    rintro xs h5 J - ⟨i, q, fp, rfl, hi, k5, hq, hf, hnd, hk5⟩ hJ
    simp only [List.cons_append, List.nil_append]
    have hal := argsR_len i s3
    refine h_ite (fun hc6 => ?_) (fun hc6 => ?_)
    · replace hc6 : cmpOp .lss (i : Int) (cn : Int) = true := hc6
      rw [cmp_lss, decide_eq_true_eq] at hc6
      refine num_step rfl rfl k5 (by omega) fun h6 k6 hk6 => ?_
      simp only [List.cons_append, List.nil_append]
      have hbf : ∀ x ∈ fp, x ∉ [b] := fun x hx hb => by
        rw [List.mem_singleton] at hb
        subst hb
        have := k.live; rw [hf x hx] at this; cases this
      have hq6 := hq.agree (hk6.agree hq.live hbf)
      have hk06 := hk5.trans hk6
      refine ⟨[.int .i64 (belowR 4096 (argsR i s3).2).1], 1, ⟨rfl, rfl⟩, app_rowF hq6 rfl (by rw [zero3]; rfl) ?_ fun q' h7 fq k1' k2' k3' k4' => ?_⟩
      · have : vlen q = i := by have := hq.row0.len; simp [hal.2] at this; omega
        show (vlen q + 1) * 8 ≤ _
        omega
      · have hfq : Fresh h fq := by
          rcases k4' with rfl | ⟨x, rfl, hx⟩
          · exact hf
          · intro y hy
            rw [List.mem_singleton] at hy; subst hy
            cases eh : h y with
            | none => rfl
            | some o =>
              by_cases hyb : y ∈ [b]
              · rw [List.mem_singleton] at hyb; subst hyb
                have := k6.live; rw [hx] at this; cases this
              · have := hk06 y hyb (by rw [eh]; rfl)
                rw [hx, eh] at this; cases this
        have hnq : fq.Nodup := by
          rcases k4' with rfl | ⟨x, rfl, hx⟩
          · exact hnd
          · simp
        have k7 : Rdr g h7 b (belowR 4096 (argsR i s3).2).2 := by
          obtain ⟨r1, r2, v, r3, ety, r4⟩ := k6
          refine ⟨r1, ?_, v, r3, ety, ?_⟩
          · intro x o ex
            have hx1 := r2 x o ex
            rw [k3' x (fun hx => by
              have := hf x hx
              have hxb : x ∉ [b] := hbf x hx
              obtain ⟨y1, y2, _⟩ := k
              rw [y2 x o ex] at this; cases this) (by rw [hx1]; rfl)]
            exact hx1
          · rw [k3' b (fun hx => hbf b hx (List.mem_singleton.2 rfl)) (by rw [r4]; rfl)]; exact r4
        show J [.int .i64 (intOp .add .i64 (i : Int) 1), q', ptrB b] h7
        rw [int_add_one (n := 10) (by omega) (by omega)]
        refine hJ _ _ ⟨i + 1, q', fq, rfl, by omega, ?_, ?_, hfq, hnq, kept_fresh hk06 k3' hf⟩ ?_
        · rw [argsR_snoc]; exact k7
        · rw [argsR_snoc, List.map_append]; exact k1'
        · show cn - ((((i + 1 : Nat) : Nat) : Int)).toNat < cn - ((i : Int)).toNat
          omega
    · replace hc6 : cmpOp .lss (i : Int) (cn : Int) = false := hc6
      rw [cmp_lss, decide_eq_false_iff_not] at hc6
      have : i = cn := by omega
      subst this
      refine ⟨rfl, k5, hk5, q, fp, ?_, ⟨q, rfl, hq⟩, hf, hnd⟩
      show Value.agg #[.int .u8 (IntKind.u8.wrap kd), .int .u8 0, .int .i64 _, .int .i64 0, .int .i64 0, .int .i64 _, q] = _
      rw [hw, hc5]; rfl
  · replace hc5 : cmpOp .eql (IntKind.u8.wrap kd) 6 = false := hc5
    rw [cc, decide_eq_false_iff_not] at hc5
    have e : insR s = (⟨kd, 0, 0, 0, 0, 0, []⟩, failR 20 s1) := by
      unfold insR; simp only [← hkd, ← hs1]; rw [if_neg hc, if_neg hc2, if_neg hc3, if_neg hc4, if_neg hc5]
    rw [e]
    refine h_call0 (s66 (c := 20) k1) ?_
    rintro _ h2 ⟨rfl, k2, hk2⟩
    refine ⟨[], trivial, rfl, insQ_nil rfl k2 (hk1.trans hk2) ?_⟩
    show Value.agg #[.int .u8 (IntKind.u8.wrap kd), .int .u8 0, .int .i64 0, .int .i64 0, .int .i64 0, .int .i64 0, .slice none 0 0] = _
    rw [hw]; rfl
theorem s69 (k : Rdr g h b s) (hl : s.1.length ≤ 1000000000) : CallsA Try.prog 69 (fun _ => [ptrB b]) [] h (Ret fun r h' => r = .agg (endC (endR s).1).toArray ∧ Rdr g h' b (endR s).2 ∧ KeptH h h' [b]) := by
  refine c69 (G := [ptrB b]) ⟨⟨_, rfl⟩, trivial⟩ ?_
  have bl := fun n s => belowR_len n s
  refine below_step (n := 256) rfl rfl (by omega) (by omega) k hl fun h1 k1 hk1 => ?_
  obtain ⟨kd, hkd⟩ : ∃ kd, kd = (belowR 256 s).1 := ⟨_, rfl⟩
  obtain ⟨s1, hs1⟩ : ∃ s1, s1 = (belowR 256 s).2 := ⟨_, rfl⟩
  have hr0 := belowR_range 256 s
  have hl1 : s1.1.length ≤ 1000000000 := by rw [hs1]; have := bl 256 s; omega
  rw [← hkd] at hr0 ⊢
  rw [← hs1] at k1
  have hw : IntKind.u8.wrap kd = kd := wrap_u8 (by omega) (by omega)
  have cc : ∀ m : Int, cmpOp .eql (IntKind.u8.wrap kd) m = decide (kd = m) := fun m => by rw [hw, cmp_eql]
  simp only [List.cons_append, List.nil_append]
  refine h_ite (fun hc => ?_) (fun hc => h_ite (fun hc2 => ?_) (fun hc2 => h_ite (fun hc3 => ?_) (fun hc3 => ?_)))
  · replace hc : cmpOp .eql (IntKind.u8.wrap kd) 1 = true := hc
    rw [cc, decide_eq_true_eq] at hc
    have e : endR s = (⟨1, 0, (belowR 4096 s1).1, 0⟩, (belowR 4096 s1).2) := by
      unfold endR; simp only [← hkd, ← hs1]; rw [if_pos hc]
    rw [e]
    refine num_step2 rfl rfl k1 hl1 fun h2 k2 hk2 => ⟨rfl, ?_, k2, hk1.trans hk2⟩
    show Value.agg #[.int .u8 (IntKind.u8.wrap kd), .int .i64 0, .int .i64 _, .int .i64 0] = _
    rw [hw, hc]; rfl
  all_goals (replace hc : cmpOp .eql (IntKind.u8.wrap kd) 1 = false := hc; rw [cc, decide_eq_false_iff_not] at hc)
  · replace hc2 : cmpOp .eql (IntKind.u8.wrap kd) 2 = true := hc2
    rw [cc, decide_eq_true_eq] at hc2
    have e : endR s = (⟨2, (belowR 4096 s1).1, (belowR 4096 (belowR 4096 s1).2).1, (belowR 4096 (belowR 4096 (belowR 4096 s1).2).2).1⟩, (belowR 4096 (belowR 4096 (belowR 4096 s1).2).2).2) := by
      unfold endR; simp only [← hkd, ← hs1]; rw [if_neg hc, if_pos hc2]
    rw [e]
    have t1 := bl 4096 s1
    have t2 := bl 4096 (belowR 4096 s1).2
    refine num_step2 rfl rfl k1 hl1 fun h2 k2 hk2 => ?_
    simp only [List.cons_append, List.nil_append]
    refine num_step2 rfl rfl k2 (by omega) fun h3 k3 hk3 => ?_
    simp only [List.cons_append, List.nil_append]
    refine num_step2 rfl rfl k3 (by omega) fun h4 k4 hk4 => ⟨rfl, ?_, k4, ((hk1.trans hk2).trans hk3).trans hk4⟩
    show Value.agg #[.int .u8 (IntKind.u8.wrap kd), .int .i64 _, .int .i64 _, .int .i64 _] = _
    rw [hw, hc2]; rfl
  all_goals (replace hc2 : cmpOp .eql (IntKind.u8.wrap kd) 2 = false := hc2; rw [cc, decide_eq_false_iff_not] at hc2)
  · replace hc3 : cmpOp .eql (IntKind.u8.wrap kd) 3 = true := hc3
    rw [cc, decide_eq_true_eq] at hc3
    have e : endR s = (⟨3, (belowR 4096 s1).1, 0, 0⟩, (belowR 4096 s1).2) := by
      unfold endR; simp only [← hkd, ← hs1]; rw [if_neg hc, if_neg hc2, if_pos hc3]
    rw [e]
    refine num_step2 rfl rfl k1 hl1 fun h2 k2 hk2 => ⟨rfl, ?_, k2, hk1.trans hk2⟩
    show Value.agg #[.int .u8 (IntKind.u8.wrap kd), .int .i64 _, .int .i64 0, .int .i64 0] = _
    rw [hw, hc3]; rfl
  · replace hc3 : cmpOp .eql (IntKind.u8.wrap kd) 3 = false := hc3
    rw [cc, decide_eq_false_iff_not] at hc3
    have e : endR s = (⟨kd, 0, 0, 0⟩, failR 20 s1) := by
      unfold endR; simp only [← hkd, ← hs1]; rw [if_neg hc, if_neg hc2, if_neg hc3]
    rw [e]
    refine h_call0 (s66 (c := 20) k1) ?_
    rintro _ h2 ⟨rfl, k2, hk2⟩
    refine ⟨[], trivial, rfl, rfl, ?_, k2, hk1.trans hk2⟩
    show Value.agg #[.int .u8 (IntKind.u8.wrap kd), .int .i64 0, .int .i64 0, .int .i64 0] = _
    rw [hw]; rfl
end
end Go.Proofs.Ythnoplfjcdkacaa
