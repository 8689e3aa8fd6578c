/-
  A function run, code run, an input made, the fixed facts. Conditions: as each contract says.
-/
import Derived.Test.YtodeffobplpcnaaPb
import Derived.Test.YtodeffobplpcnaaR2Lw
import Derived.Test.YtodeffobplpcnaaMa
set_option linter.unusedVariables false
set_option linter.unusedSimpArgs false
namespace Go.Proofs.Ytodeffobplpcnaa
open Go

def inputM (p : Int) (len : Nat) (fuel : Int) : Int := if (len : Int) ≠ p then 25 else if fuel < 0 ∨ 1048576 < fuel then 2 else 0
theorem s23 {h : H} {av mv nv : Value} {args mem ans : List Int} {p fuel : Int} (ha : IntsAt h av args) (hm : IntsAt h mv mem) (hn : IntsAt h nv ans) :
    CallsA Try.prog 23 (fun _ => [.int .i64 p, .agg #[av, mv, nv, .int .i64 fuel]]) [] h (Ret fun r h' => h' = h ∧ r = .int .i64 (inputM p args.length fuel)) := by
  refine c23 (G := [.int .i64 p, av, mv, nv, .int .i64 fuel]) ⟨⟨_, rfl⟩, ha.fit, hm.fit, hn.fit, ⟨_, rfl⟩, trivial⟩ ?_
  have hl := ha.len
  unfold inputM
  refine h_ite (fun hc => ⟨rfl, rfl, ?_⟩) (fun hc => h_ite (fun hd => ⟨rfl, rfl, ?_⟩) (fun hd => ⟨rfl, rfl, ?_⟩)) <;> simp only [holds, X.den, PE.den, SV.den, SV.denL, NK.val, NK.sv, NK.pub, gv_zero, gv_succ, vi_int, vb_bool, vlen_sl, vaddr_ptr, vb_ite, vi_ite, cmp_eql, cmp_neq, cmp_lss, cmp_leq, cmp_gtr, cmp_geq, List.map_nil, List.map_cons, List.cons_append, List.nil_append, List.flatten_nil, needs, Ret, true_and, and_true, decide_eq_true_eq, forall_const, intOp, hl] at hc
  · rw [if_pos hc]; rfl
  · simp only [holds, X.den, PE.den, SV.den, SV.denL, NK.val, NK.sv, NK.pub, gv_zero, gv_succ, vi_int, vb_bool, vlen_sl, vaddr_ptr, vb_ite, vi_ite, cmp_eql, cmp_neq, cmp_lss, cmp_leq, cmp_gtr, cmp_geq, List.map_nil, List.map_cons, List.cons_append, List.nil_append, List.flatten_nil, needs, Ret, true_and, and_true, decide_eq_true_eq, forall_const, intOp] at hd
    rw [if_neg (by simpa using hc), if_pos (by grind)]; rfl
  · simp only [holds, X.den, PE.den, SV.den, SV.denL, NK.val, NK.sv, NK.pub, gv_zero, gv_succ, vi_int, vb_bool, vlen_sl, vaddr_ptr, vb_ite, vi_ite, cmp_eql, cmp_neq, cmp_lss, cmp_leq, cmp_gtr, cmp_geq, List.map_nil, List.map_cons, List.cons_append, List.nil_append, List.flatten_nil, needs, Ret, true_and, and_true, decide_eq_true_eq, forall_const, intOp] at hd
    rw [if_neg (by simpa using hc), if_neg (by grind)]; rfl
theorem s24 {h : H} {av mv nv : Value} {args mem ans : List Int} {p fuel : Int} (ha : IntsAt h av args) (hm : IntsAt h mv mem) (hn : IntsAt h nv ans) :
    CallsA Try.prog 24 (fun _ => [.int .i64 p, .agg #[av, mv, nv, .int .i64 fuel]]) [] h (Ret fun r h' => h' = h ∧ r = .int .i64 (inputM p args.length fuel)) := by
  refine c24 (G := [.int .i64 p, av, mv, nv, .int .i64 fuel]) ⟨⟨_, rfl⟩, ha.fit, hm.fit, hn.fit, ⟨_, rfl⟩, trivial⟩ ?_
  have hl := ha.len
  unfold inputM
  refine h_ite (fun hc => ⟨rfl, rfl, ?_⟩) (fun hc => h_ite (fun hd => ⟨rfl, rfl, ?_⟩) (fun hd => ⟨rfl, rfl, ?_⟩)) <;> simp only [holds, X.den, PE.den, SV.den, SV.denL, NK.val, NK.sv, NK.pub, gv_zero, gv_succ, vi_int, vb_bool, vlen_sl, vaddr_ptr, vb_ite, vi_ite, cmp_eql, cmp_neq, cmp_lss, cmp_leq, cmp_gtr, cmp_geq, List.map_nil, List.map_cons, List.cons_append, List.nil_append, List.flatten_nil, needs, Ret, true_and, and_true, decide_eq_true_eq, forall_const, intOp, hl] at hc
  · rw [if_pos hc]; rfl
  · simp only [holds, X.den, PE.den, SV.den, SV.denL, NK.val, NK.sv, NK.pub, gv_zero, gv_succ, vi_int, vb_bool, vlen_sl, vaddr_ptr, vb_ite, vi_ite, cmp_eql, cmp_neq, cmp_lss, cmp_leq, cmp_gtr, cmp_geq, List.map_nil, List.map_cons, List.cons_append, List.nil_append, List.flatten_nil, needs, Ret, true_and, and_true, decide_eq_true_eq, forall_const, intOp] at hd
    rw [if_neg (by simpa using hc), if_pos (by grind)]; rfl
  · simp only [holds, X.den, PE.den, SV.den, SV.denL, NK.val, NK.sv, NK.pub, gv_zero, gv_succ, vi_int, vb_bool, vlen_sl, vaddr_ptr, vb_ite, vi_ite, cmp_eql, cmp_neq, cmp_lss, cmp_leq, cmp_gtr, cmp_geq, List.map_nil, List.map_cons, List.cons_append, List.nil_append, List.flatten_nil, needs, Ret, true_and, and_true, decide_eq_true_eq, forall_const, intOp] at hd
    rw [if_neg (by simpa using hc), if_neg (by grind)]; rfl
theorem rval_out {t : Rs} {cv : Value} (hm : t.mem.length = 64) : rval [(true, outSh)] (outC t cv) = .agg (outC t cv).toArray := by
  show Value.agg ((outC t cv).take 68).toArray = _
  rw [List.take_of_length_le (by rw [outC_len hm]; omega)]
theorem rval_out2 {t : Rs} {cv : Value} {e : Int} (hm : t.mem.length = 64) : rval [(true, outSh), (false, [.int .i64])] (outC t cv ++ [.int .i64 e]) = .tuple #[.agg (outC t cv).toArray, .int .i64 e] := by
  show Value.tuple #[Value.agg ((outC t cv ++ [Value.int .i64 e]).take 68).toArray, gv ((outC t cv ++ [Value.int .i64 e]).drop 68) 0] = _
  have hl : (outC t cv).length = 68 := outC_len hm
  rw [List.take_append_of_le_length (by omega), List.take_of_length_le (by omega), List.drop_append_of_le_length (by omega), List.drop_of_length_le (by omega)]; rfl
theorem fits_out {t : Rs} {cv : Value} (hm : t.mem.length = 64) (hc : Fits .sl cv) : FitsL (rshs [(true, outSh)]) (outC t cv) := by
  show FitsL (outSh ++ []) _
  rw [List.append_nil]; exact outC_fit hm hc
theorem fits_out2 {t : Rs} {cv : Value} {e : Int} (hm : t.mem.length = 64) (hc : Fits .sl cv) : FitsL (rshs [(true, outSh), (false, [.int .i64])]) (outC t cv ++ [.int .i64 e]) := by
  show FitsL (outSh ++ ([.int .i64] ++ [])) _
  exact FitsL.append (outC_fit hm hc) ⟨⟨_, rfl⟩, trivial⟩
/-- A call that hands out an output. -/
theorem h_callO {P : Program} {R : Value → List (List Value) → H → Prop} {G : List Value} {L : Lv} {h : H} {f : FuncId} {args : List SV} {k : Out} {Q : Rs → H → Prop}
    (hc : CallsA P f (fun e => SV.denL G (fun j => e (kIdx [] j)) args) [] h (Ret fun r h' => ∃ t, OutA h' r t ∧ Q t h'))
    (hk : ∀ t cv h', t.mem.length = 64 → CallsAt h' cv t.calls → Q t h' → holds P R k (G ++ outC t cv) L h') : holds P R (.call f args [] [] [] [(true, outSh)] k) G L h :=
  h_call0 hc fun r h' ⟨t, ⟨cv, e1, e2, e3⟩, hq⟩ => ⟨outC t cv, fits_out e2 e3.fit, by rw [e1, rval_out e2], hk t cv h' e2 e3 hq⟩
theorem h_callO2 {P : Program} {R : Value → List (List Value) → H → Prop} {G : List Value} {L : Lv} {h : H} {f : FuncId} {args : List SV} {k : Out} {Q : Rs → Int → H → Prop}
    (hc : CallsA P f (fun e => SV.denL G (fun j => e (kIdx [] j)) args) [] h (Ret fun r h' => ∃ o e t, r = .tuple #[o, .int .i64 e] ∧ OutA h' o t ∧ Q t e h'))
    (hk : ∀ t e cv h', t.mem.length = 64 → CallsAt h' cv t.calls → Q t e h' → holds P R k (G ++ (outC t cv ++ [.int .i64 e])) L h') : holds P R (.call f args [] [] [] [(true, outSh), (false, [.int .i64])] k) G L h :=
  h_call0 hc fun r h' ⟨o, e, t, hr, ⟨cv, e1, e2, e3⟩, hq⟩ => ⟨outC t cv ++ [.int .i64 e], fits_out2 e2 e3.fit, by rw [hr, e1, rval_out2 e2], hk t e cv h' e2 e3 hq⟩
theorem CallsA.post {P : Program} {f : FuncId} {args : (Nat → CE) → List Value} {cs : List (List Value)} {h : H} {Q Q' : Value → H → Prop} (H : CallsA P f args cs h (Ret Q)) (hq : ∀ r h', Q r h' → Q' r h') : CallsA P f args cs h (Ret Q') :=
  CallsA.mono H fun r c h' ⟨e, q⟩ => ⟨e, hq r h' q⟩
def RunSpec (p n : Int) (bs : List Blk) (args mem ans : List Int) (fuel e : Int) (t : Rs) : Prop :=
  if (checkM p n bs).1 ≠ 0 then e = 30 ∧ t = zeroRs else if inputM p args.length fuel ≠ 0 then e = inputM p args.length fuel ∧ t = zeroRs
  else e = 0 ∧ Runs bs n 0 0 (start n.toNat 0 args mem ans fuel) t
theorem zero_ok : CallsOk zeroRs := ⟨by simp [zeroRs], fun c hc => by cases hc⟩
theorem s18 {h : H} {bv av mv nv : Value} {bs : List Blk} {args mem ans : List Int} {p n fuel : Int} (hb : BlksAt h bv bs) (ha : IntsAt h av args) (hm : IntsAt h mv mem) (hn : IntsAt h nv ans) :
    CallsA Try.prog 18 (fun _ => [.agg #[.int .i64 p, .int .i64 n, bv], .agg #[av, mv, nv, .int .i64 fuel]]) [] h (Ret fun r h' => ∃ o e t, r = .tuple #[o, .int .i64 e] ∧ OutA h' o t ∧ h.le h' ∧ CallsOk t ∧ RunSpec p n bs args mem ans fuel e t) := by
  refine c18 (G := [.int .i64 p, .int .i64 n, bv, av, mv, nv, .int .i64 fuel]) ⟨⟨_, rfl⟩, ⟨_, rfl⟩, hb.fit, ha.fit, hm.fit, hn.fit, ⟨_, rfl⟩, trivial⟩ ?_
  refine h_call0 (s35 p n bv bs hb) ?_
  rintro _ h1 ⟨hl1, rfl⟩
  refine ⟨faultG (checkM p n bs), faultG_fit _, rfl, h_ite (fun hc => ⟨rfl, ?_⟩) (fun hc => ?_)⟩
  · replace hc : cmpOp .neq (checkM p n bs).1 0 = true := hc
    rw [cmp_neq, decide_eq_true_eq] at hc
    refine ⟨_, 30, zeroRs, rfl, zeroRs_at, hl1, zero_ok, ?_⟩
    unfold RunSpec; rw [if_pos hc]; exact ⟨rfl, rfl⟩
  replace hc : cmpOp .neq (checkM p n bs).1 0 = false := hc
  rw [cmp_neq, decide_eq_false_iff_not] at hc
  refine h_call0 (s23 (p := p) (fuel := fuel) (ha.le hl1) (hm.le hl1) (hn.le hl1)) ?_
  rintro _ g1 ⟨eg, rfl⟩
  obtain rfl : h1 = g1 := eg.symm
  refine ⟨[.int .i64 (inputM p args.length fuel)], ⟨⟨_, rfl⟩, trivial⟩, rfl, h_ite (fun hd => ⟨rfl, ?_⟩) (fun hd => ?_)⟩
  · replace hd : cmpOp .neq (inputM p args.length fuel) 0 = true := hd
    rw [cmp_neq, decide_eq_true_eq] at hd
    refine ⟨_, inputM p args.length fuel, zeroRs, rfl, zeroRs_at, hl1, zero_ok, ?_⟩
    unfold RunSpec; rw [if_neg hc, if_pos hd]; exact ⟨rfl, rfl⟩
  replace hd : cmpOp .neq (inputM p args.length fuel) 0 = false := hd
  rw [cmp_neq, decide_eq_false_iff_not] at hd
  simp only [ne_eq, Decidable.not_not] at hc hd
  obtain ⟨k1, k2, k3⟩ := checkM_zeroR hc
  have hrange : 0 ≤ p ∧ p ≤ n ∧ n ≤ 32 := by unfold checkM at hc; split at hc <;> simp_all <;> omega
  have hin : (args.length : Int) = p ∧ 0 ≤ fuel ∧ fuel ≤ 1048576 := by unfold inputM at hd; grind
  obtain ⟨N, rfl⟩ : ∃ N : Nat, n = (N : Int) := ⟨n.toNat, by omega⟩
  have hok : ∀ x ∈ bs, BlOk (N : Int) ((N + 0 : Nat) : Int) bs.length x := fun x hx => by
    obtain ⟨q1, q2, q3⟩ := k3 x hx
    exact bl_ir (by omega) q2 q3 (Nat.le_refl _) (by omega)
  have hbl := SlAt.le blkC_mono hl1 hb
  have hs := s27 (S := 0) (first := 0) (fuel := fuel) hbl (ha.le hl1) (hm.le hl1) (hn.le hl1) hok k1 (by omega) (by omega) (by omega) (by omega)
  refine h_callO (Q := fun t h' => h1.le h' ∧ CallsOk t ∧ Runs bs N 0 0 (start N 0 args mem ans fuel) t) (hs.post fun r h' ⟨q1, t, q2, q3⟩ => ⟨t, q3.at_, q1.le_nil, q2.ok hok (by omega) (by omega), q2⟩) ?_
  rintro t cv h2 e2 e3 ⟨hl2, hco, hr⟩
  refine ⟨rfl, .agg (outC t cv).toArray, 0, t, ?_, ⟨cv, rfl, e2, e3⟩, hl1.trans hl2, hco, ?_⟩
  · have := denL_svs (G := [.int .i64 p, .int .i64 (N : Int), bv, av, mv, nv, .int .i64 fuel] ++ faultG (checkM p (N : Int) bs) ++ [.int .i64 (inputM p args.length fuel)]) (outC_fit e2 e3.fit) (l := Sh.svs 11 outSh) rfl
    exact congrArg (fun z => Value.tuple #[.agg z.toArray, .int .i64 0]) this
  · unfold RunSpec
    rw [if_neg (by simpa using hc), if_neg (by simpa using hd)]
    exact ⟨rfl, by rw [Int.toNat_natCast]; exact hr⟩
def ExecSpec (p r s : Int) (bs : List Blk) (args mem ans : List Int) (fuel e : Int) (t : Rs) : Prop :=
  if (mcheckM p r s bs).1 ≠ 0 then e = 30 ∧ t = zeroRs else if inputM p args.length fuel ≠ 0 then e = inputM p args.length fuel ∧ t = zeroRs
  else e = 0 ∧ Runs bs r 0 0 (start (r.toNat + s.toNat) r.toNat args mem ans fuel) t
theorem s30 {h : H} {bv av mv nv : Value} {bs : List Blk} {args mem ans : List Int} {p r s fuel : Int} (hb : BlksAt h bv bs) (ha : IntsAt h av args) (hm : IntsAt h mv mem) (hn : IntsAt h nv ans) :
    CallsA Try.prog 30 (fun _ => [.agg #[.int .i64 p, .int .i64 r, .int .i64 s, bv], .agg #[av, mv, nv, .int .i64 fuel]]) [] h (Ret fun q h' => ∃ o e t, q = .tuple #[o, .int .i64 e] ∧ OutA h' o t ∧ h.le h' ∧ CallsOk t ∧ ExecSpec p r s bs args mem ans fuel e t) := by
  refine c30 (G := [.int .i64 p, .int .i64 r, .int .i64 s, bv, av, mv, nv, .int .i64 fuel]) ⟨⟨_, rfl⟩, ⟨_, rfl⟩, ⟨_, rfl⟩, hb.fit, ha.fit, hm.fit, hn.fit, ⟨_, rfl⟩, trivial⟩ ?_
  refine h_call0 (s42 p r s bv bs hb) ?_
  rintro _ h1 ⟨hl1, rfl⟩
  refine ⟨faultG (mcheckM p r s bs), faultG_fit _, rfl, h_ite (fun hc => ⟨rfl, ?_⟩) (fun hc => ?_)⟩
  · replace hc : cmpOp .neq (mcheckM p r s bs).1 0 = true := hc
    rw [cmp_neq, decide_eq_true_eq] at hc
    refine ⟨_, 30, zeroRs, rfl, zeroRs_at, hl1, zero_ok, ?_⟩
    unfold ExecSpec; rw [if_pos hc]; exact ⟨rfl, rfl⟩
  replace hc : cmpOp .neq (mcheckM p r s bs).1 0 = false := hc
  rw [cmp_neq, decide_eq_false_iff_not] at hc
  refine h_call0 (s23 (p := p) (fuel := fuel) (ha.le hl1) (hm.le hl1) (hn.le hl1)) ?_
  rintro _ g1 ⟨eg, rfl⟩
  obtain rfl : h1 = g1 := eg.symm
  refine ⟨[.int .i64 (inputM p args.length fuel)], ⟨⟨_, rfl⟩, trivial⟩, rfl, h_ite (fun hd => ⟨rfl, ?_⟩) (fun hd => ?_)⟩
  · replace hd : cmpOp .neq (inputM p args.length fuel) 0 = true := hd
    rw [cmp_neq, decide_eq_true_eq] at hd
    refine ⟨_, inputM p args.length fuel, zeroRs, rfl, zeroRs_at, hl1, zero_ok, ?_⟩
    unfold ExecSpec; rw [if_neg hc, if_pos hd]; exact ⟨rfl, rfl⟩
  replace hd : cmpOp .neq (inputM p args.length fuel) 0 = false := hd
  rw [cmp_neq, decide_eq_false_iff_not] at hd
  simp only [ne_eq, Decidable.not_not] at hc hd
  obtain ⟨⟨q1, q2, q3, q4, q5, q6⟩, k1, k2, k3⟩ := mcheck_zeroR hc
  have hin : (args.length : Int) = p ∧ 0 ≤ fuel ∧ fuel ≤ 1048576 := by unfold inputM at hd; grind
  obtain ⟨N, rfl⟩ : ∃ N : Nat, r = (N : Int) := ⟨r.toNat, by omega⟩
  obtain ⟨M, rfl⟩ : ∃ M : Nat, s = (M : Int) := ⟨s.toNat, by omega⟩
  have hok : ∀ x ∈ bs, BlOk (N : Int) ((N + M : Nat) : Int) bs.length x := fun x hx => by
    obtain ⟨q1, q2, q3⟩ := k3 x hx
    exact bl_mach (by omega) (by omega) (by omega) (by omega) q2 q3
  have hbl := SlAt.le blkC_mono hl1 hb
  have hs := s27 (S := M) (first := N) (fuel := fuel) hbl (ha.le hl1) (hm.le hl1) (hn.le hl1) hok k1 (by omega) (by omega) (by omega) (by omega)
  refine h_callO (Q := fun t h' => h1.le h' ∧ CallsOk t ∧ Runs bs N 0 0 (start (N + M) N args mem ans fuel) t) (hs.post fun r h' ⟨q1, t, q2, q3⟩ => ⟨t, q3.at_, q1.le_nil, q2.ok hok (by omega) (by omega), q2⟩) ?_
  rintro t cv h2 e2 e3 ⟨hl2, hco, hr⟩
  refine ⟨rfl, .agg (outC t cv).toArray, 0, t, ?_, ⟨cv, rfl, e2, e3⟩, hl1.trans hl2, hco, ?_⟩
  · have := denL_svs (G := [.int .i64 p, .int .i64 (N : Int), .int .i64 (M : Int), bv, av, mv, nv, .int .i64 fuel] ++ faultG (mcheckM p (N : Int) (M : Int) bs) ++ [.int .i64 (inputM p args.length fuel)]) (outC_fit e2 e3.fit) (l := Sh.svs 12 outSh) rfl
    exact congrArg (fun z => Value.tuple #[.agg z.toArray, .int .i64 0]) this
  · unfold ExecSpec
    rw [if_neg (by simpa using hc), if_neg (by simpa using hd)]
    exact ⟨rfl, by rw [Int.toNat_natCast, Int.toNat_natCast]; exact hr⟩
end Go.Proofs.Ytodeffobplpcnaa

/-
  An input made; the fixed facts. Conditions: as each contract says.
-/
set_option linter.unusedVariables false
set_option linter.unusedSimpArgs false
namespace Go.Proofs.Ytodeffobplpcnaa
open Go

def inArgs (args : List Int) (p : Nat) : List Int := (List.range p).map fun i => args.getD i i
theorem inArgs_len (args : List Int) (p : Nat) : (inArgs args p).length = p := by simp [inArgs]
theorem inArgs_succ (args : List Int) (p : Nat) : inArgs args (p + 1) = inArgs args p ++ [args.getD p p] := by simp [inArgs, List.range_succ]
def fuelM (fuel : Int) : Int := IntKind.i64.wrap (intOp .rem .u64 (IntKind.u64.wrap fuel) 400)
theorem fuelM_range (fuel : Int) : 0 ≤ fuelM fuel ∧ fuelM fuel < 400 := by
  have h : 0 ≤ IntKind.u64.wrap fuel := by simp [IntKind.wrap, IntKind.bits, IntKind.signed]; omega
  have := tmod_range (a := IntKind.u64.wrap fuel) (n := 400) h (by omega)
  unfold fuelM; simp only [intOp]; rw [wrap_i64 (by omega) (by omega)]; exact this
theorem cut_val {G : List Value} {k m : Nat} (e : vlen (gv G k) = m) : vi ((X.ite (.cmp .lss (.lit 100) (.len k)) (.lit 100) (.len k)).den G) = ((min m 100 : Nat) : Int) := by
  simp only [X.den, e, vi_ite, vi_int, vb_bool, cmp_lss, decide_eq_true_eq]
  split <;> omega
theorem cut_ints {h : H} {v : Value} {l : List Int} (hv : IntsAt h v l) : IntsAt h (sliceV v 0 (min l.length 100) 1) (l.take 100) := by
  have := hv.slice (lo := 0) (hi := min l.length 100) (by omega) (by omega)
  simp only [List.drop_zero, Nat.sub_zero] at this
  rw [show l.take (min l.length 100) = l.take 100 by rw [Nat.min_comm, ← List.take_take, List.take_length]] at this
  exact this
theorem s17 {h : H} {av mv nv : Value} {args mem ans : List Int} {p : Nat} {fuel : Int} (ha : IntsAt h av args) (hm : IntsAt h mv mem) (hn : IntsAt h nv ans) (hp : p ≤ 1000) :
    CallsA Try.prog 17 (fun _ => [.agg #[av, mv, nv, .int .i64 fuel], .int .i64 (p : Int)]) [] h (Ret fun r h' => ∃ u m' n', r = .agg #[u, m', n', .int .i64 (fuelM fuel)] ∧ h.le h' ∧ IntsAt h' u (inArgs args p) ∧ IntsAt h' m' (mem.take 100) ∧ IntsAt h' n' (ans.take 100)) := by
  refine c17 (G := [av, mv, nv, .int .i64 fuel, .int .i64 (p : Int)]) ⟨ha.fit, hm.fit, hn.fit, ⟨_, rfl⟩, ⟨_, rfl⟩, trivial⟩ ?_
  have hal := ha.len
  have hml := hm.len
  have hnl := hn.len
  have cap : ∀ {v : Value} {l : List Int}, IntsAt h v l → l.length ≤ vcap v := fun {v l} hv => by
    have hl := hv.len
    obtain ⟨a, n, c, rfl, _, h3⟩ := hv.fit
    simp only [vlen_sl, vcap_sl] at hl ⊢; omega
  have need : ∀ {G : List Value} {k : Nat} {v : Value} {l : List Int}, gv G k = v → IntsAt h v l → needs G [(.cmp .geq (.ite (.cmp .lss (.lit 100) (.len k)) (.lit 100) (.len k)) (.lit 0)), (.cmp .leq (.ite (.cmp .lss (.lit 100) (.len k)) (.lit 100) (.len k)) (.cap k))] := fun {G k v l} e hv => by
    have hc := cut_val (G := G) (k := k) (m := l.length) (by rw [e]; exact hv.len)
    have hcp := cap hv
    have e1 : vb ((X.cmp .geq (.ite (.cmp .lss (.lit 100) (.len k)) (.lit 100) (.len k)) (.lit 0)).den G) = cmpOp .geq (vi ((X.ite (.cmp .lss (.lit 100) (.len k)) (.lit 100) (.len k)).den G)) 0 := rfl
    have e2 : vb ((X.cmp .leq (.ite (.cmp .lss (.lit 100) (.len k)) (.lit 100) (.len k)) (.cap k)).den G) = cmpOp .leq (vi ((X.ite (.cmp .lss (.lit 100) (.len k)) (.lit 100) (.len k)).den G)) (vcap (gv G k) : Nat) := rfl
    refine ⟨?_, ?_, trivial⟩
    · rw [e1, hc]; exact ge0 _
    · rw [e2, hc, e, cmp_leq, decide_eq_true_eq]; omega
  refine ⟨fun _ => need rfl hm, ?_⟩
  intro m' hm'
  replace hm' : m' = sliceV mv 0 (min mem.length 100) 1 := by
    rw [hm']
    show sliceV mv 0 (vi ((X.ite (.cmp .lss (.lit 100) (.len 1)) (.lit 100) (.len 1)).den [av, mv, nv, .int .i64 fuel, .int .i64 (p : Int)])).toNat 1 = _
    rw [cut_val (G := [av, mv, nv, .int .i64 fuel, .int .i64 (p : Int)]) (k := 1) (m := mem.length) hml, Int.toNat_natCast]
  have im := cut_ints hm
  rw [← hm'] at im
  refine ⟨fun _ => need rfl hn, ?_⟩
  intro n' hn'
  replace hn' : n' = sliceV nv 0 (min ans.length 100) 1 := by
    rw [hn']
    show sliceV nv 0 (vi ((X.ite (.cmp .lss (.lit 100) (.len 2)) (.lit 100) (.len 2)).den ([av, mv, nv, .int .i64 fuel, .int .i64 (p : Int)] ++ [m']))).toNat 1 = _
    rw [cut_val (G := [av, mv, nv, .int .i64 fuel, .int .i64 (p : Int)] ++ [m']) (k := 2) (m := ans.length) hnl, Int.toNat_natCast]
  have inn := cut_ints hn
  rw [← hn'] at inn
  simp only [List.cons_append, List.nil_append]
  refine h_loop (fun xs h' => ∃ (i : Nat) (u : Value) (f : List Nat), xs = [.int .i64 (i : Int), u] ∧ i ≤ p ∧ KeptH h h' [] ∧ RowF h' 2 1 u ((inArgs args i).map (.int .i64)) f ∧ Fresh h f)
    (fun xs h' => p - (vi (gv xs 0)).toNat) ⟨0, .slice none 0 0, [], rfl, Nat.zero_le _, KeptH.refl _ _, .inl ⟨rfl, rfl, rfl⟩, (fun c hc => by cases hc)⟩ ?_
  rintro xs h1 J - ⟨i, u, f, rfl, hi, hk1, hu, hf⟩ hJ
  simp only [List.cons_append, List.nil_append]
  have hul := (rowF_ints hu).len
  rw [inArgs_len] at hul
  have step : ∀ {z : Int} {u' : Value} {h2 : H} {f' : List Nat}, z = args.getD i i → i < p → RowF h2 2 1 u' ((inArgs args i).map (.int .i64) ++ [.int .i64 z]) f' → KeptH h1 h2 f → (f' = f ∨ ∃ b, f' = [b] ∧ h1 b = none) → J [.int .i64 (intOp .add .i64 (i : Int) 1), u'] h2 := fun {z u' h2 f'} hz hip k1 k3 k4 => by
    rw [int_add_one (n := p) hip (by omega)]
    refine hJ _ _ ⟨i + 1, u', f', rfl, by omega, hk1.trans_nil k3 hf, ?_, ?_⟩ ?_
    · rw [inArgs_succ, ← hz, List.map_append]; exact k1
    · rcases k4 with rfl | ⟨c, rfl, hc⟩
      · exact hf
      · intro q hq; rw [List.mem_singleton] at hq; subst hq; exact H.le_none hk1.le_nil hc
    · simp only [gv_zero, vi_int]; omega
  refine h_ite (fun hc => ?_) (fun hc => ?_)
  · replace hc : cmpOp .lss (i : Int) (p : Int) = true := hc
    rw [cmp_lss, decide_eq_true_eq] at hc
    refine h_ite (fun hd => ?_) (fun hd => ?_)
    · replace hd : cmpOp .lss (i : Int) ((vlen av : Nat) : Int) = true := hd
      have n1 := hd
      rw [hal, cmp_lss, decide_eq_true_eq] at hd
      have hz : args[i]? = some (args.getD i i) := by rw [List.getD_eq_getElem?_getD, List.getElem?_eq_getElem (by omega)]; rfl
      refine ⟨fun _ => ⟨ge0 i, n1, trivial⟩, h_load [.int .i64 (args.getD i i)] ⟨⟨_, rfl⟩, trivial⟩ (fun _ => (ha.le hk1.le_nil).read hz) ⟨[.int .i64 (args.getD i i)], 1, ⟨rfl, rfl⟩, app_rowF hu rfl (by rw [zeroI64]; rfl) ?_ ?_⟩⟩
      · show (vlen u + 1) * 8 ≤ _; omega
      · intro u' h2 f' k1 k2 k3 k4
        exact step rfl (by omega) k1 k3 k4
    · replace hd : cmpOp .lss (i : Int) ((vlen av : Nat) : Int) = false := hd
      rw [hal, cmp_lss, decide_eq_false_iff_not] at hd
      refine ⟨[.int .i64 (i : Int)], 1, ⟨rfl, rfl⟩, app_rowF hu rfl (by rw [zeroI64]; rfl) ?_ ?_⟩
      · show (vlen u + 1) * 8 ≤ _; omega
      · intro u' h2 f' k1 k2 k3 k4
        exact step (by rw [List.getD_eq_getElem?_getD, List.getElem?_eq_none (by omega)]; rfl) (by omega) k1 k3 k4
  · replace hc : cmpOp .lss (i : Int) (p : Int) = false := hc
    rw [cmp_lss, decide_eq_false_iff_not] at hc
    have hie : i = p := by omega
    subst hie
    exact ⟨rfl, u, m', n', rfl, hk1.le_nil, rowF_ints hu, im.le hk1.le_nil, inn.le hk1.le_nil⟩
def aw6 : Blk := ⟨[⟨3, 3, 0, 0, 0, 0, []⟩], ⟨3, 0, 0, 0⟩⟩
theorem aw6_run (fuel : Int) (hf : fuel = 9 ∨ fuel = 1) {e : Int} {t : Rs} (h : RunSpec 1 1 [aw6] [5] [] [] fuel e t) : e = 0 ∧ (fuel = 9 → t.how = 1 ∧ t.value = 25 ∧ t.left = 7) ∧ (fuel = 1 → t.how = 3 ∧ t.left = 0) := by
  have h1 : (checkM 1 1 [aw6]).1 = 0 := by decide
  unfold RunSpec at h
  rw [if_neg (by simpa using h1)] at h
  rcases hf with rfl | rfl
  · rw [if_neg (by decide)] at h
    obtain ⟨he, hr⟩ := h
    have hr2 : Runs [aw6] 1 0 0 (start 1 0 [5] [] [] 9) (endS aw6.en (stepM 1 ⟨3, 3, 0, 0, 0, 0, []⟩ (start 1 0 [5] [] [] 9)).1).1 := .step (x := aw6) (y := ⟨3, 3, 0, 0, 0, 0, []⟩) rfl rfl rfl (.fin (x := aw6) rfl rfl rfl)
    have := hr.same hr2
    subst this
    refine ⟨he, fun _ => ⟨by decide, by decide, by decide⟩, fun q => by cases q⟩
  · rw [if_neg (by decide)] at h
    obtain ⟨he, hr⟩ := h
    have hr2 : Runs [aw6] 1 0 0 (start 1 0 [5] [] [] 1) (endS aw6.en (stepM 1 ⟨3, 3, 0, 0, 0, 0, []⟩ (start 1 0 [5] [] [] 1)).1).1 := .step (x := aw6) (y := ⟨3, 3, 0, 0, 0, 0, []⟩) rfl rfl rfl (.fin (x := aw6) rfl rfl rfl)
    have := hr.same hr2
    subst this
    refine ⟨he, (fun q => by cases q), fun _ => ⟨by decide, by decide⟩⟩
theorem gO {A B : List Value} {t : Rs} {cv : Value} {a i : Nat} (ha : A.length = a) (hm : t.mem.length = 64) (hi : i < 68) : gv (A ++ (outC t cv ++ B)) (a + i) = gv (outC t cv) i := by
  rw [gv_at (j := i) (by omega), gv_of_lt (by rw [outC_len hm]; exact hi)]
theorem gOe {A B : List Value} {t : Rs} {cv : Value} {a j : Nat} (ha : A.length = a) (hm : t.mem.length = 64) : gv (A ++ (outC t cv ++ B)) (a + 68 + j) = gv B j := by
  rw [gv_at (j := 68 + j) (by omega), gv_at (j := j) (by rw [outC_len hm])]
theorem five_at {h : H} {b : Nat} : IntsAt (h.put b (.cells [Value.int .i64 5].toArray 2 (0, 0))) (.slice (some ⟨b, 0, none⟩) 1 1) [5] := ints_new (l := [5]) (r := []) (c := 1) (by simp)
theorem row_ins {h : H} {b : Nat} {x y : Ins} (hx : x.args = []) (hy : y.args = []) : SlAt 7 InsC (h.put b (.cells (insC x (.slice none 0 0) ++ insC y (.slice none 0 0)).toArray 71 (0, 0))) (.slice (some ⟨b, 0, none⟩) 2 2) [x, y] := by
  refine SlF.at (R := InsF) (e := 71) (fp := [b]) (by omega) insF_at ⟨[⟨insC x (.slice none 0 0), x, []⟩, ⟨insC y (.slice none 0 0), y, []⟩], [b], rfl, by simp [fpE], ?_, fun t ht => ?_⟩
  · have := RowF.new (h := h) (e := 71) (sz := 7) (b := b) (n := 2) (c := 2) (cs := insC x (.slice none 0 0) ++ insC y (.slice none 0 0)) (r := []) rfl rfl (Nat.le_refl _)
    rw [List.append_nil] at this
    simpa [cellsE] using this
  · simp only [List.mem_cons, List.not_mem_nil, or_false] at ht
    rcases ht with rfl | rfl
    · exact ⟨rfl, _, rfl, by rw [hx]; exact .inl ⟨rfl, rfl, rfl⟩⟩
    · exact ⟨rfl, _, rfl, by rw [hy]; exact .inl ⟨rfl, rfl, rfl⟩⟩
theorem row_blk {h : H} {b : Nat} {w : Value} {x : Blk} (hw : SlAt 7 InsC h w x.ins) (hb : h b = none) : BlksAt (h.put b (.cells (w :: endC x.en).toArray 66 (0, 0))) (.slice (some ⟨b, 0, none⟩) 1 1) [x] := by
  refine ⟨⟨_, _, _, rfl, (fun e => by cases e), Nat.le_refl _⟩, rfl, fun i y hi => ?_⟩
  obtain ⟨rfl, rfl⟩ := get_one hi
  exact ⟨_, ⟨_, rfl, SlAt.le insC_mono (H.le_put hb) hw⟩, Reads.put (o := 0) fun i v hi => by simpa using hi⟩
theorem and_cond {G : List Value} {c d : X} : vb ((X.ite c d (.tt false)).den G) = (vb (c.den G) && vb (d.den G)) := by
  simp only [X.den, vb_ite, vb_bool]; cases vb (c.den G) <;> simp
theorem eq_cond {G : List Value} {i : Nat} {n m : Int} (e : gv G i = .int .i64 n) : vb ((X.cmp .eql (.var i) (.lit m)).den G) = decide (n = m) := by
  simp only [X.den, e, vi_int, vb_bool, cmp_eql]
theorem s15 {h : H} : CallsA Try.prog 15 (fun _ => []) [] h (Ret fun r h' => h.le h' ∧ r = .bool true) := by
  refine c15 (G := []) trivial ?_
  refine h_alloc (insC ⟨3, 3, 0, 0, 0, 0, []⟩ (.slice none 0 0)) rfl fun b0 hb0 => h_alloc (.slice (some ⟨b0, 0, none⟩) 1 1 :: endC aw6.en) rfl fun b1 hb1 => ?_
  have hB := blk_one (x := ⟨3, 3, 0, 0, 0, 0, []⟩) (e := aw6.en) (SlAt.nil : IntsAt h (.slice none 0 0) []) hb0 hb1
  have hl2 := (H.le_put (o := .cells (insC ⟨3, 3, 0, 0, 0, 0, []⟩ (.slice none 0 0)).toArray 71 (0, 0)) hb0).trans (H.le_put (o := .cells (Value.slice (some ⟨b0, 0, none⟩) 1 1 :: endC aw6.en).toArray 66 (0, 0)) hb1)
  generalize (h.put b0 (.cells (insC ⟨3, 3, 0, 0, 0, 0, []⟩ (.slice none 0 0)).toArray 71 (0, 0))).put b1 (.cells (Value.slice (some ⟨b0, 0, none⟩) 1 1 :: endC aw6.en).toArray 66 (0, 0)) = h2 at hB hl2 ⊢
  refine h_alloc [.int .i64 5] rfl fun b2 hb2 => ?_
  have hl3 := H.le_put (o := .cells [Value.int .i64 5].toArray 2 (0, 0)) hb2
  have h5 := five_at (h := h2) (b := b2)
  have hB3 := SlAt.le blkC_mono hl3 hB
  generalize h2.put b2 (.cells [Value.int .i64 5].toArray 2 (0, 0)) = h3 at hl3 h5 hB3 ⊢
  refine h_callO2 (Q := fun t e h' => h3.le h' ∧ CallsOk t ∧ RunSpec 1 1 [aw6] [5] [] [] 9 e t) ((s18 (p := 1) (n := 1) (fuel := 9) hB3 h5 SlAt.nil SlAt.nil).post fun r h' q => q) ?_
  rintro t e cv h4 m1 c1 ⟨hl4, -, hs⟩
  obtain ⟨rfl, k1, -⟩ := aw6_run 9 (.inl rfl) hs
  obtain ⟨t1, t2, t3⟩ := k1 rfl
  refine h_alloc [.int .i64 5] rfl fun b5 hb5 => ?_
  have hl5 := H.le_put (o := .cells [Value.int .i64 5].toArray 2 (0, 0)) hb5
  have h5' := five_at (h := h4) (b := b5)
  have hB5 := SlAt.le blkC_mono (hl4.trans hl5) hB3
  generalize h4.put b5 (.cells [Value.int .i64 5].toArray 2 (0, 0)) = h6 at hl5 h5' hB5 ⊢
  have hGl : (([] : List Value) ++ [NK.val b0 (.lsl 1)] ++ [NK.val b1 (.lsl 1)] ++ [NK.val b2 (.lsl 1)]).length = 3 := rfl
  obtain ⟨u0, u1, u2, u67⟩ := outC_gv (s := t) (cv := cv) m1
  refine h_callO2 (Q := fun t e h' => h6.le h' ∧ CallsOk t ∧ RunSpec 1 1 [aw6] [5] [] [] 1 e t) ?_ ?_
  · have := (s18 (p := 1) (n := 1) (fuel := 1) hB5 h5' SlAt.nil SlAt.nil)
    have g72 : gv ([NK.val b0 (.lsl 1), NK.val b1 (.lsl 1), NK.val b2 (.lsl 1)] ++ (outC t cv ++ ([.int .i64 0] ++ [NK.val b5 (.lsl 1)]))) 72 = NK.val b5 (.lsl 1) := gOe (a := 3) (j := 1) rfl m1
    have eG : ([] : List Value) ++ [NK.val b0 (.lsl 1)] ++ [NK.val b1 (.lsl 1)] ++ [NK.val b2 (.lsl 1)] ++ (outC t cv ++ [.int .i64 0]) ++ [NK.val b5 (.lsl 1)] = [NK.val b0 (.lsl 1), NK.val b1 (.lsl 1), NK.val b2 (.lsl 1)] ++ (outC t cv ++ ([.int .i64 0] ++ [NK.val b5 (.lsl 1)])) := by simp
    rw [eG]
    have g1 : gv ([NK.val b0 (.lsl 1), NK.val b1 (.lsl 1), NK.val b2 (.lsl 1)] ++ (outC t cv ++ ([.int .i64 0] ++ [NK.val b5 (.lsl 1)]))) 1 = NK.val b1 (.lsl 1) := rfl
    simp only [SV.denL, SV.den, X.den, g72, g1]
    exact this
  rintro t' e' cv' h7 m2 c2 ⟨hl7, -, hs'⟩
  obtain ⟨rfl, -, k2⟩ := aw6_run 1 (.inr rfl) hs'
  obtain ⟨w1, w2⟩ := k2 rfl
  obtain ⟨v0, v1, v2, v67⟩ := outC_gv (s := t') (cv := cv') m2
  have eG : ([] : List Value) ++ [NK.val b0 (.lsl 1)] ++ [NK.val b1 (.lsl 1)] ++ [NK.val b2 (.lsl 1)] ++ (outC t cv ++ [.int .i64 0]) ++ [NK.val b5 (.lsl 1)] ++ (outC t' cv' ++ [.int .i64 0]) = [NK.val b0 (.lsl 1), NK.val b1 (.lsl 1), NK.val b2 (.lsl 1)] ++ (outC t cv ++ ([.int .i64 0, NK.val b5 (.lsl 1)] ++ (outC t' cv' ++ [.int .i64 0]))) := by simp
  rw [eG]
  have f3 := gO (A := [NK.val b0 (.lsl 1), NK.val b1 (.lsl 1), NK.val b2 (.lsl 1)]) (B := [.int .i64 0, NK.val b5 (.lsl 1)] ++ (outC t' cv' ++ [.int .i64 0])) (cv := cv) (a := 3) (i := 0) rfl m1 (by omega)
  have f4 := gO (A := [NK.val b0 (.lsl 1), NK.val b1 (.lsl 1), NK.val b2 (.lsl 1)]) (B := [.int .i64 0, NK.val b5 (.lsl 1)] ++ (outC t' cv' ++ [.int .i64 0])) (cv := cv) (a := 3) (i := 1) rfl m1 (by omega)
  have f70 := gO (A := [NK.val b0 (.lsl 1), NK.val b1 (.lsl 1), NK.val b2 (.lsl 1)]) (B := [.int .i64 0, NK.val b5 (.lsl 1)] ++ (outC t' cv' ++ [.int .i64 0])) (cv := cv) (a := 3) (i := 67) rfl m1 (by omega)
  have f71 := gOe (A := [NK.val b0 (.lsl 1), NK.val b1 (.lsl 1), NK.val b2 (.lsl 1)]) (B := [.int .i64 0, NK.val b5 (.lsl 1)] ++ (outC t' cv' ++ [.int .i64 0])) (cv := cv) (a := 3) (j := 0) rfl m1
  have f73 := gOe (A := [NK.val b0 (.lsl 1), NK.val b1 (.lsl 1), NK.val b2 (.lsl 1)]) (B := [.int .i64 0, NK.val b5 (.lsl 1)] ++ (outC t' cv' ++ [.int .i64 0])) (cv := cv) (a := 3) (j := 2) rfl m1
  have f140 := gOe (A := [NK.val b0 (.lsl 1), NK.val b1 (.lsl 1), NK.val b2 (.lsl 1)]) (B := [.int .i64 0, NK.val b5 (.lsl 1)] ++ (outC t' cv' ++ [.int .i64 0])) (cv := cv) (a := 3) (j := 69) rfl m1
  have f141 := gOe (A := [NK.val b0 (.lsl 1), NK.val b1 (.lsl 1), NK.val b2 (.lsl 1)]) (B := [.int .i64 0, NK.val b5 (.lsl 1)] ++ (outC t' cv' ++ [.int .i64 0])) (cv := cv) (a := 3) (j := 70) rfl m1
  have b73 := gO (A := [Value.int .i64 0, NK.val b5 (.lsl 1)]) (B := [.int .i64 0]) (cv := cv') (a := 2) (i := 0) rfl m2 (by omega)
  have b140 := gO (A := [Value.int .i64 0, NK.val b5 (.lsl 1)]) (B := [.int .i64 0]) (cv := cv') (a := 2) (i := 67) rfl m2 (by omega)
  have b141 := gOe (A := [Value.int .i64 0, NK.val b5 (.lsl 1)]) (B := [.int .i64 0]) (cv := cv') (a := 2) (j := 0) rfl m2
  rw [u0, t1] at f3
  rw [u1, t2] at f4
  rw [u67, t3] at f70
  rw [b73, v0, w1] at f73
  rw [b140, v67, w2] at f140
  rw [b141] at f141
  refine ⟨rfl, ((((hl2.trans hl3).trans hl4).trans hl5).trans hl7), ?_⟩
  refine congrArg Value.bool ?_
  rw [and_cond, and_cond, and_cond, and_cond, and_cond, and_cond, eq_cond f71, eq_cond (n := 0) f141, eq_cond f3, eq_cond f4, eq_cond f70, eq_cond f73, eq_cond f140]
  rfl
def aw7 : Blk := ⟨[⟨8, 0, 2, 0, 0, 0, []⟩, ⟨3, 3, 1, 2, 2, 0, []⟩], ⟨3, 1, 0, 0⟩⟩
theorem aw7_run {e : Int} {t : Rs} (h : ExecSpec 1 3 1 [aw7] [5] [] [] 9 e t) : e = 0 ∧ t.how = 1 ∧ t.value = 25 ∧ t.left = 7 := by
  have h1 : (mcheckM 1 3 1 [aw7]).1 = 0 := by decide
  unfold ExecSpec at h
  rw [if_neg (by simpa using h1), if_neg (by decide)] at h
  obtain ⟨he, hr⟩ := h
  have hr2 : Runs [aw7] 3 0 0 (start 4 3 [5] [] [] 9) (endS aw7.en (stepM 3 ⟨3, 3, 1, 2, 2, 0, []⟩ (stepM 3 ⟨8, 0, 2, 0, 0, 0, []⟩ (start 4 3 [5] [] [] 9)).1).1).1 :=
    .step (x := aw7) (y := ⟨8, 0, 2, 0, 0, 0, []⟩) rfl rfl rfl (.step (x := aw7) (y := ⟨3, 3, 1, 2, 2, 0, []⟩) rfl rfl rfl (.fin (x := aw7) rfl rfl rfl))
  have := hr.same hr2
  subst this
  exact ⟨he, by decide, by decide, by decide⟩
theorem s29 {h : H} : CallsA Try.prog 29 (fun _ => []) [] h (Ret fun r h' => h.le h' ∧ r = .bool true) := by
  refine c29 (G := []) trivial ?_
  refine h_alloc (insC ⟨8, 0, 2, 0, 0, 0, []⟩ (.slice none 0 0) ++ insC ⟨3, 3, 1, 2, 2, 0, []⟩ (.slice none 0 0)) rfl fun b0 hb0 => h_alloc (.slice (some ⟨b0, 0, none⟩) 2 2 :: endC aw7.en) rfl fun b1 hb1 => ?_
  have hI := row_ins (h := h) (b := b0) (x := ⟨8, 0, 2, 0, 0, 0, []⟩) (y := ⟨3, 3, 1, 2, 2, 0, []⟩) rfl rfl
  have hB := row_blk (x := aw7) hI hb1
  have hl2 := (H.le_put (o := .cells (insC ⟨8, 0, 2, 0, 0, 0, []⟩ (.slice none 0 0) ++ insC ⟨3, 3, 1, 2, 2, 0, []⟩ (.slice none 0 0)).toArray 71 (0, 0)) hb0).trans (H.le_put (o := .cells (Value.slice (some ⟨b0, 0, none⟩) 2 2 :: endC aw7.en).toArray 66 (0, 0)) hb1)
  generalize (h.put b0 (.cells (insC ⟨8, 0, 2, 0, 0, 0, []⟩ (.slice none 0 0) ++ insC ⟨3, 3, 1, 2, 2, 0, []⟩ (.slice none 0 0)).toArray 71 (0, 0))).put b1 (.cells (Value.slice (some ⟨b0, 0, none⟩) 2 2 :: endC aw7.en).toArray 66 (0, 0)) = h2 at hB hl2 ⊢
  refine h_alloc [.int .i64 5] rfl fun b2 hb2 => ?_
  have hl3 := H.le_put (o := .cells [Value.int .i64 5].toArray 2 (0, 0)) hb2
  have h5 := five_at (h := h2) (b := b2)
  have hB3 := SlAt.le blkC_mono hl3 hB
  generalize h2.put b2 (.cells [Value.int .i64 5].toArray 2 (0, 0)) = h3 at hl3 h5 hB3 ⊢
  refine h_callO2 (Q := fun t e h' => h3.le h' ∧ CallsOk t ∧ ExecSpec 1 3 1 [aw7] [5] [] [] 9 e t) ((s30 (p := 1) (r := 3) (s := 1) (fuel := 9) hB3 h5 SlAt.nil SlAt.nil).post fun r h' q => q) ?_
  rintro t e cv h4 m1 c1 ⟨hl4, -, hs⟩
  obtain ⟨rfl, t1, t2, t3⟩ := aw7_run hs
  obtain ⟨u0, u1, u2, u67⟩ := outC_gv (s := t) (cv := cv) m1
  have eG : ([] : List Value) ++ [NK.val b0 (.lsl 2)] ++ [NK.val b1 (.lsl 1)] ++ [NK.val b2 (.lsl 1)] ++ (outC t cv ++ [.int .i64 0]) = [NK.val b0 (.lsl 2), NK.val b1 (.lsl 1), NK.val b2 (.lsl 1)] ++ (outC t cv ++ [.int .i64 0]) := by simp
  rw [eG]
  have f3 := gO (A := [NK.val b0 (.lsl 2), NK.val b1 (.lsl 1), NK.val b2 (.lsl 1)]) (B := [.int .i64 0]) (cv := cv) (a := 3) (i := 0) rfl m1 (by omega)
  have f4 := gO (A := [NK.val b0 (.lsl 2), NK.val b1 (.lsl 1), NK.val b2 (.lsl 1)]) (B := [.int .i64 0]) (cv := cv) (a := 3) (i := 1) rfl m1 (by omega)
  have f70 := gO (A := [NK.val b0 (.lsl 2), NK.val b1 (.lsl 1), NK.val b2 (.lsl 1)]) (B := [.int .i64 0]) (cv := cv) (a := 3) (i := 67) rfl m1 (by omega)
  have f71 := gOe (A := [NK.val b0 (.lsl 2), NK.val b1 (.lsl 1), NK.val b2 (.lsl 1)]) (B := [.int .i64 0]) (cv := cv) (a := 3) (j := 0) rfl m1
  rw [u0, t1] at f3
  rw [u1, t2] at f4
  rw [u67, t3] at f70
  refine ⟨rfl, ((hl2.trans hl3).trans hl4), ?_⟩
  refine congrArg Value.bool ?_
  rw [and_cond, and_cond, and_cond, eq_cond (n := 0) f71, eq_cond f3, eq_cond f4, eq_cond f70]
  rfl
end Go.Proofs.Ytodeffobplpcnaa

/-
  What a made function is, when run. Conditions: none (plain lemmas).
-/
set_option linter.unusedVariables false
set_option linter.unusedSimpArgs false
namespace Go.Proofs.Ytodeffobplpcnaa
open Go

theorem made_fun {p0 p1 p2 : Int} {l : List Int} (h0 : 0 ≤ p0) (h1 : 0 ≤ p1) (h2 : 0 ≤ p2) (hl : InB l) : ∃ P V : Nat, madeP p0 = (P : Int) ∧ madeV p0 p1 = (V : Int) ∧ P ≤ 4 ∧ V ≤ 31 ∧ P ≤ V ∧ checkM (P : Int) (V : Int) (madeB p0 p1 p2 l) = (0, 0, 0) ∧
    (∀ x ∈ madeB p0 p1 p2 l, BlOk (V : Int) ((V + 0 : Nat) : Int) (madeB p0 p1 p2 l).length x) ∧ 1 ≤ (madeB p0 p1 p2 l).length ∧ (madeB p0 p1 p2 l).length ≤ 16 := by
  have a := madeP_range h0
  have b := madeV_range h0 h1
  have c := madeN_range h2
  have hBl := madeB_len (p0 := p0) (p1 := p1) (l := l) h2
  have hck : checkM (madeP p0) (madeV p0 p1) (madeB p0 p1 p2 l) = (0, 0, 0) := made_ok (w := madeV p0 p1) h0 h1 h2 hl (Int.le_refl _) (by omega) (fun b hb => hb) (by omega) (by omega)
  obtain ⟨P, hP⟩ : ∃ P : Nat, madeP p0 = (P : Int) := ⟨(madeP p0).toNat, by omega⟩
  obtain ⟨V, hV⟩ : ∃ V : Nat, madeV p0 p1 = (V : Int) := ⟨(madeV p0 p1).toNat, by omega⟩
  rw [hP, hV] at hck
  refine ⟨P, V, hP, hV, by omega, by omega, by omega, hck, fun x hx => ?_, by omega, by omega⟩
  obtain ⟨k1, k2, k3⟩ := checkM_zeroR (p := P) (n := V) (bs := madeB p0 p1 p2 l) (by rw [hck])
  obtain ⟨q1, q2, q3⟩ := k3 x hx
  exact bl_ir (by omega) q2 q3 (Nat.le_refl _) (by omega)
theorem input_ok {p len : Nat} {fuel : Int} (h : len = p) (hf : 0 ≤ fuel ∧ fuel ≤ 1048576) : inputM p len fuel = 0 := by
  unfold inputM; rw [if_neg (by omega), if_neg (by omega)]
theorem run_made {P V : Nat} {bs : List Blk} {args mem ans : List Int} {fuel e : Int} {t : Rs} (hck : checkM (P : Int) (V : Int) bs = (0, 0, 0)) (hf : 0 ≤ fuel ∧ fuel < 400) (ha : args.length = P) (h : RunSpec P V bs args mem ans fuel e t) :
    e = 0 ∧ Runs bs V 0 0 (start V 0 args mem ans fuel) t := by
  unfold RunSpec at h
  rw [if_neg (by rw [hck]; simp), if_neg (by rw [input_ok ha (by omega)]; simp), Int.toNat_natCast] at h
  exact h
/-- Two outputs that are the same, compared. -/
theorem h_same {R : Value → List (List Value) → H → Prop} {A M D G : List Value} {t t' : Rs} {cv cv' : Value} {L : Lv} {h : H} {k : Out} {l1 l2 : List SV} (hG : G = A ++ (outC t cv ++ (M ++ (outC t' cv' ++ D)))) (m1 : t.mem.length = 64) (m2 : t'.mem.length = 64) (c1 : CallsAt h cv t.calls) (c2 : CallsAt h cv' t'.calls) (hs : SameO t t') (hco : CallsOk t)
    (hl1 : l1 = Sh.svs A.length outSh) (hl2 : l2 = Sh.svs (A.length + 68 + M.length) outSh) (hk : holds Try.prog R k (G ++ [.bool true]) L h) :
    holds Try.prog R (.call 19 [.agg l1, .agg l2] [] [] [] [(false, [.bool])] k) G L h := by
  have d1 : ∀ E : Nat → CE, SV.denL G E l1 = outC t cv := fun E => by
    rw [hG, ← List.append_assoc]
    exact den_part (outC_fit m1 c1.fit) hl1
  have d2 : ∀ E : Nat → CE, SV.denL G E l2 = outC t' cv' := fun E => by
    have e : G = (A ++ (outC t cv ++ M)) ++ outC t' cv' ++ D := by rw [hG]; simp
    rw [e]
    exact den_part (outC_fit m2 c2.fit) (by rw [hl2, List.length_append, List.length_append, outC_len m1, Nat.add_assoc])
  refine h_call0 (Q := fun r h' => h' = h ∧ r = .bool true) ?_ ?_
  · have := s19 (h := h) ⟨cv, rfl, m1, c1⟩ ⟨cv', rfl, m2, c2⟩ hs hco
    simp only [SV.denL, SV.den, d1, d2]
    exact this
  · rintro _ _ ⟨rfl, rfl⟩
    exact ⟨[.bool true], ⟨⟨_, rfl⟩, trivial⟩, rfl, hk⟩
theorem made_code {h h' : H} {p0 p2 rg sl : Int} {u : Value} {bs : List Blk} {fp : List Nat} (h0 : 0 ≤ p0) (h2 : 0 ≤ p2) (hr : 0 ≤ rg ∧ rg ≤ 255) (hsl : 0 ≤ sl ∧ sl ≤ 255) (M : MadeR h (madeP p0) (mR rg) (mS (madeP p0) sl) (madeN p2) 70 u bs fp h') :
    ∃ P R S : Nat, madeP p0 = (P : Int) ∧ mR rg = (R : Int) ∧ mS (P : Int) sl = (S : Int) ∧ P ≤ 4 ∧ 3 ≤ R ∧ R ≤ 8 ∧ P ≤ S ∧ 1 ≤ S ∧ S ≤ 11 ∧ mcheckM (P : Int) (R : Int) (S : Int) bs = (0, 0, 0) ∧ (∀ x ∈ bs, BlOk (R : Int) ((R + S : Nat) : Int) bs.length x) ∧ 1 ≤ bs.length ∧ bs.length ≤ 16 := by
  have a := madeP_range h0
  have hN := madeN_range h2
  have hR := mR_range hr.1
  have hS := mS_range a hsl.1
  have hck := M.check a hR hS hN
  have hlen := M.len
  obtain ⟨P, hP⟩ : ∃ P : Nat, madeP p0 = (P : Int) := ⟨(madeP p0).toNat, by omega⟩
  obtain ⟨R, hRe⟩ : ∃ R : Nat, mR rg = (R : Int) := ⟨(mR rg).toNat, by omega⟩
  obtain ⟨S, hSe⟩ : ∃ S : Nat, mS (madeP p0) sl = (S : Int) := ⟨(mS (madeP p0) sl).toNat, by omega⟩
  have M' := M.ok
  rw [hSe] at hck hS M'
  rw [hP] at hck hSe hS a
  rw [hRe] at hck hR M'
  refine ⟨P, R, S, hP, hRe, hSe, by omega, by omega, by omega, by omega, by omega, by omega, hck, fun x hx => ?_, by omega, by omega⟩
  obtain ⟨k1, k2, k3⟩ := M' x hx
  rw [← hlen] at k3
  exact bl_mach (by omega) (by omega) (by omega) (by omega) (fun y hy => (k2 y hy).1) k3
theorem exec_made {P R S : Nat} {bs : List Blk} {args mem ans : List Int} {fuel e : Int} {t : Rs} (hck : mcheckM (P : Int) (R : Int) (S : Int) bs = (0, 0, 0)) (hf : 0 ≤ fuel ∧ fuel < 400) (ha : args.length = P) (h : ExecSpec P R S bs args mem ans fuel e t) :
    e = 0 ∧ Runs bs R 0 0 (start (R + S) R args mem ans fuel) t := by
  unfold ExecSpec at h
  rw [if_neg (by rw [hck]; simp), if_neg (by rw [input_ok ha (by omega)]; simp), Int.toNat_natCast, Int.toNat_natCast] at h
  exact h
end Go.Proofs.Ytodeffobplpcnaa

/-
  What an input that is handed in reads as. Conditions: none (plain lemmas).
-/
set_option linter.unusedVariables false
set_option linter.unusedSimpArgs false
namespace Go.Proofs.Ytodeffobplpcnaa
open Go Go.ChangeShapes Go.WideShapes Go.ChangeAt Go.RowKit

section
variable {H : Type} {enc : TypeId × Value → H} {W : World}
theorem rd_ints64 {cs : List Value} (h : Rd enc Try.prog W 25 cs) : ∃ v l, cs = [v] ∧ IntsAt (hOf W) v l ∧ vcap v ≤ maxLen :=
  h.slice Try.underlying25 (by kernel_rfl) fun cs' hr => by
    obtain ⟨n, rfl, hw⟩ := hr.int Try.underlying2
    exact ⟨n, rfl⟩
theorem rd_input {cs : List Value} (h : Rd enc Try.prog W 27 cs) : ∃ av mv nv fuel args mem ans, cs = [av, mv, nv, .int .i64 fuel] ∧ IntsAt (hOf W) av args ∧ IntsAt (hOf W) mv mem ∧ IntsAt (hOf W) nv ans := by
  obtain ⟨a0, _, rfl, r0, a1, _, rfl, r1, a2, _, rfl, r2, a3, _, rfl, r3, rfl⟩ := h.parts Try.underlying27 (by kernel_rfl)
  obtain ⟨u0, l0, rfl, h0, _⟩ := rd_ints64 r0
  obtain ⟨u1, l1, rfl, h1, _⟩ := rd_ints64 r1
  obtain ⟨u2, l2, rfl, h2, _⟩ := rd_ints64 r2
  obtain ⟨n3, rfl, _⟩ := r3.int Try.underlying3
  exact ⟨u0, u1, u2, n3, l0, l1, l2, rfl, h0, h1, h2⟩
end
end Go.Proofs.Ytodeffobplpcnaa
