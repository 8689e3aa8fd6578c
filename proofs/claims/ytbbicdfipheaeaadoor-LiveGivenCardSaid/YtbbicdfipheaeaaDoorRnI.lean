/-
  A function run, code run, an input made, the fixed facts. Conditions: as each contract says.
-/
import Derived.Test.YtbbicdfipheaeaaDoorRnH
set_option linter.unusedVariables false
set_option linter.unusedSimpArgs false
namespace Go.Proofs.YtbbicdfipheaeaaDoor
open Go

def inputM (p : Int) (len : Nat) (fuel : Int) : Int := if (len : Int) ≠ p then 25 else if fuel < 0 ∨ 1048576 < fuel then 2 else 0
theorem s65 {h : H} {av mv nv : Value} {args mem ans : List Int} {p fuel : Int} (ha : IntsAt h av args) (hm : IntsAt h mv mem) (hn : IntsAt h nv ans) :
    CallsA Tryd.prog 65 (fun _ => [.int .i64 p, .agg #[av, mv, nv, .int .i64 fuel]]) [] h (Ret fun r h' => h' = h ∧ r = .int .i64 (inputM p args.length fuel)) := by
  refine c65 (G := [.int .i64 p, av, mv, nv, .int .i64 fuel]) ⟨⟨_, rfl⟩, ha.fit, hm.fit, hn.fit, ⟨_, rfl⟩, trivial⟩ ?_
  have hl := ha.len
  unfold inputM
  refine h_ite (fun hc => ⟨rfl, rfl, ?_⟩) (fun hc => h_ite (fun hd => ⟨rfl, rfl, ?_⟩) (fun hd => ⟨rfl, rfl, ?_⟩)) <;> simp only [holds, X.den, PE.den, SV.den, SV.denL, NK.val, NK.sv, NK.pub, gv_zero, gv_succ, vi_int, vb_bool, vlen_sl, vaddr_ptr, vb_ite, vi_ite, cmp_eql, cmp_neq, cmp_lss, cmp_leq, cmp_gtr, cmp_geq, List.map_nil, List.map_cons, List.cons_append, List.nil_append, List.flatten_nil, needs, Ret, true_and, and_true, decide_eq_true_eq, forall_const, intOp, hl] at hc
  · rw [if_pos hc]; rfl
  · simp only [holds, X.den, PE.den, SV.den, SV.denL, NK.val, NK.sv, NK.pub, gv_zero, gv_succ, vi_int, vb_bool, vlen_sl, vaddr_ptr, vb_ite, vi_ite, cmp_eql, cmp_neq, cmp_lss, cmp_leq, cmp_gtr, cmp_geq, List.map_nil, List.map_cons, List.cons_append, List.nil_append, List.flatten_nil, needs, Ret, true_and, and_true, decide_eq_true_eq, forall_const, intOp] at hd
    rw [if_neg (by simpa using hc), if_pos (by grind)]; rfl
  · simp only [holds, X.den, PE.den, SV.den, SV.denL, NK.val, NK.sv, NK.pub, gv_zero, gv_succ, vi_int, vb_bool, vlen_sl, vaddr_ptr, vb_ite, vi_ite, cmp_eql, cmp_neq, cmp_lss, cmp_leq, cmp_gtr, cmp_geq, List.map_nil, List.map_cons, List.cons_append, List.nil_append, List.flatten_nil, needs, Ret, true_and, and_true, decide_eq_true_eq, forall_const, intOp] at hd
    rw [if_neg (by simpa using hc), if_neg (by grind)]; rfl
theorem rval_out {t : Rs} {cv : Value} (hm : t.mem.length = 64) : rval [(true, outSh)] (outC t cv) = .agg (outC t cv).toArray := by
  show Value.agg ((outC t cv).take 68).toArray = _
  rw [List.take_of_length_le (by rw [outC_len hm]; omega)]
theorem rval_out2 {t : Rs} {cv : Value} {e : Int} (hm : t.mem.length = 64) : rval [(true, outSh), (false, [.int .i64])] (outC t cv ++ [.int .i64 e]) = .tuple #[.agg (outC t cv).toArray, .int .i64 e] := by
  show Value.tuple #[Value.agg ((outC t cv ++ [Value.int .i64 e]).take 68).toArray, gv ((outC t cv ++ [Value.int .i64 e]).drop 68) 0] = _
  have hl : (outC t cv).length = 68 := outC_len hm
  rw [List.take_append_of_le_length (by omega), List.take_of_length_le (by omega), List.drop_append_of_le_length (by omega), List.drop_of_length_le (by omega)]; rfl
theorem fits_out {t : Rs} {cv : Value} (hm : t.mem.length = 64) (hc : Fits .sl cv) : FitsL (rshs [(true, outSh)]) (outC t cv) := by
  show FitsL (outSh ++ []) _
  rw [List.append_nil]; exact outC_fit hm hc
theorem fits_out2 {t : Rs} {cv : Value} {e : Int} (hm : t.mem.length = 64) (hc : Fits .sl cv) : FitsL (rshs [(true, outSh), (false, [.int .i64])]) (outC t cv ++ [.int .i64 e]) := by
  show FitsL (outSh ++ ([.int .i64] ++ [])) _
  exact FitsL.append (outC_fit hm hc) ⟨⟨_, rfl⟩, trivial⟩
/-- A call that hands out an output. -/
theorem h_callO {P : Program} {R : Value → List (List Value) → H → Prop} {G : List Value} {L : Lv} {h : H} {f : FuncId} {args : List SV} {k : Out} {Q : Rs → H → Prop}
    (hc : CallsA P f (fun e => SV.denL G (fun j => e (kIdx [] j)) args) [] h (Ret fun r h' => ∃ t, OutA h' r t ∧ Q t h'))
    (hk : ∀ t cv h', t.mem.length = 64 → CallsAt h' cv t.calls → Q t h' → holds P R k (G ++ outC t cv) L h') : holds P R (.call f args [] [] [] [(true, outSh)] k) G L h :=
  h_call0 hc fun r h' ⟨t, ⟨cv, e1, e2, e3⟩, hq⟩ => ⟨outC t cv, fits_out e2 e3.fit, by rw [e1, rval_out e2], hk t cv h' e2 e3 hq⟩
theorem h_callO2 {P : Program} {R : Value → List (List Value) → H → Prop} {G : List Value} {L : Lv} {h : H} {f : FuncId} {args : List SV} {k : Out} {Q : Rs → Int → H → Prop}
    (hc : CallsA P f (fun e => SV.denL G (fun j => e (kIdx [] j)) args) [] h (Ret fun r h' => ∃ o e t, r = .tuple #[o, .int .i64 e] ∧ OutA h' o t ∧ Q t e h'))
    (hk : ∀ t e cv h', t.mem.length = 64 → CallsAt h' cv t.calls → Q t e h' → holds P R k (G ++ (outC t cv ++ [.int .i64 e])) L h') : holds P R (.call f args [] [] [] [(true, outSh), (false, [.int .i64])] k) G L h :=
  h_call0 hc fun r h' ⟨o, e, t, hr, ⟨cv, e1, e2, e3⟩, hq⟩ => ⟨outC t cv ++ [.int .i64 e], fits_out2 e2 e3.fit, by rw [hr, e1, rval_out2 e2], hk t e cv h' e2 e3 hq⟩
theorem CallsA.post {P : Program} {f : FuncId} {args : (Nat → CE) → List Value} {cs : List (List Value)} {h : H} {Q Q' : Value → H → Prop} (H : CallsA P f args cs h (Ret Q)) (hq : ∀ r h', Q r h' → Q' r h') : CallsA P f args cs h (Ret Q') :=
  CallsA.mono H fun r c h' ⟨e, q⟩ => ⟨e, hq r h' q⟩
def RunSpec (p n : Int) (bs : List Blk) (args mem ans : List Int) (fuel e : Int) (t : Rs) : Prop :=
  if (checkM p n bs).1 ≠ 0 then e = 30 ∧ t = zeroRs else if inputM p args.length fuel ≠ 0 then e = inputM p args.length fuel ∧ t = zeroRs
  else e = 0 ∧ Runs bs n 0 0 (start n.toNat 0 args mem ans fuel) t
theorem zero_ok : CallsOk zeroRs := ⟨by simp [zeroRs], fun c hc => by cases hc⟩
theorem s37 {h : H} {bv av mv nv : Value} {bs : List Blk} {args mem ans : List Int} {p n fuel : Int} (hb : BlksAt h bv bs) (ha : IntsAt h av args) (hm : IntsAt h mv mem) (hn : IntsAt h nv ans) :
    CallsA Tryd.prog 37 (fun _ => [.agg #[.int .i64 p, .int .i64 n, bv], .agg #[av, mv, nv, .int .i64 fuel]]) [] h (Ret fun r h' => ∃ o e t, r = .tuple #[o, .int .i64 e] ∧ OutA h' o t ∧ h.le h' ∧ CallsOk t ∧ RunSpec p n bs args mem ans fuel e t) := by
  refine c37 (G := [.int .i64 p, .int .i64 n, bv, av, mv, nv, .int .i64 fuel]) ⟨⟨_, rfl⟩, ⟨_, rfl⟩, hb.fit, ha.fit, hm.fit, hn.fit, ⟨_, rfl⟩, trivial⟩ ?_
  refine h_call0 (s64 p n bv bs hb) ?_
  rintro _ h1 ⟨hl1, rfl⟩
  refine ⟨faultG (checkM p n bs), faultG_fit _, rfl, h_ite (fun hc => ⟨rfl, ?_⟩) (fun hc => ?_)⟩
  · replace hc : cmpOp .neq (checkM p n bs).1 0 = true := hc
    rw [cmp_neq, decide_eq_true_eq] at hc
    refine ⟨_, 30, zeroRs, rfl, zeroRs_at, hl1, zero_ok, ?_⟩
    unfold RunSpec; rw [if_pos hc]; exact ⟨rfl, rfl⟩
  replace hc : cmpOp .neq (checkM p n bs).1 0 = false := hc
  rw [cmp_neq, decide_eq_false_iff_not] at hc
  refine h_call0 (s65 (p := p) (fuel := fuel) (ha.le hl1) (hm.le hl1) (hn.le hl1)) ?_
  rintro _ g1 ⟨eg, rfl⟩
  obtain rfl : h1 = g1 := eg.symm
  refine ⟨[.int .i64 (inputM p args.length fuel)], ⟨⟨_, rfl⟩, trivial⟩, rfl, h_ite (fun hd => ⟨rfl, ?_⟩) (fun hd => ?_)⟩
  · replace hd : cmpOp .neq (inputM p args.length fuel) 0 = true := hd
    rw [cmp_neq, decide_eq_true_eq] at hd
    refine ⟨_, inputM p args.length fuel, zeroRs, rfl, zeroRs_at, hl1, zero_ok, ?_⟩
    unfold RunSpec; rw [if_neg hc, if_pos hd]; exact ⟨rfl, rfl⟩
  replace hd : cmpOp .neq (inputM p args.length fuel) 0 = false := hd
  rw [cmp_neq, decide_eq_false_iff_not] at hd
  simp only [ne_eq, Decidable.not_not] at hc hd
  obtain ⟨k1, k2, k3⟩ := checkM_zeroR hc
  have hrange : 0 ≤ p ∧ p ≤ n ∧ n ≤ 32 := by unfold checkM at hc; split at hc <;> simp_all <;> omega
  have hin : (args.length : Int) = p ∧ 0 ≤ fuel ∧ fuel ≤ 1048576 := by unfold inputM at hd; grind
  obtain ⟨N, rfl⟩ : ∃ N : Nat, n = (N : Int) := ⟨n.toNat, by omega⟩
  have hok : ∀ x ∈ bs, BlOk (N : Int) ((N + 0 : Nat) : Int) bs.length x := fun x hx => by
    obtain ⟨q1, q2, q3⟩ := k3 x hx
    exact bl_ir (by omega) q2 q3 (Nat.le_refl _) (by omega)
  have hbl := SlAt.le blkC_mono hl1 hb
  have hs := s66 (S := 0) (first := 0) (fuel := fuel) hbl (ha.le hl1) (hm.le hl1) (hn.le hl1) hok k1 (by omega) (by omega) (by omega) (by omega)
  refine h_callO (Q := fun t h' => h1.le h' ∧ CallsOk t ∧ Runs bs N 0 0 (start N 0 args mem ans fuel) t) (hs.post fun r h' ⟨q1, t, q2, q3⟩ => ⟨t, q3.at_, q1.le_nil, q2.ok hok (by omega) (by omega), q2⟩) ?_
  rintro t cv h2 e2 e3 ⟨hl2, hco, hr⟩
  refine ⟨rfl, .agg (outC t cv).toArray, 0, t, ?_, ⟨cv, rfl, e2, e3⟩, hl1.trans hl2, hco, ?_⟩
  · have := denL_svs (G := [.int .i64 p, .int .i64 (N : Int), bv, av, mv, nv, .int .i64 fuel] ++ faultG (checkM p (N : Int) bs) ++ [.int .i64 (inputM p args.length fuel)]) (outC_fit e2 e3.fit) (l := Sh.svs 11 outSh) rfl
    exact congrArg (fun z => Value.tuple #[.agg z.toArray, .int .i64 0]) this
  · unfold RunSpec
    rw [if_neg (by simpa using hc), if_neg (by simpa using hd)]
    exact ⟨rfl, by rw [Int.toNat_natCast]; exact hr⟩
end Go.Proofs.YtbbicdfipheaeaaDoor
