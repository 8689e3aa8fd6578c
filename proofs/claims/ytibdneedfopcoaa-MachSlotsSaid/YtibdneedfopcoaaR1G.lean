/-
  What the document's answer for an instruction computes, and that it is the check's. Conditions: as each contract says.
-/
import Derived.Test.YtibdneedfopcoaaR1F
import Derived.Test.YtibdneedfopcoaaR1C
set_option linter.unusedVariables false
set_option linter.unusedSimpArgs false
namespace Go.Proofs.Ytibdneedfopcoaa
open Go

def plainR (x : Ins) : Prop := (x.op = 0 ∨ x.kind = 3) ∧ (x.d = 0 ∨ x.kind = 1 ∨ x.kind = 2 ∨ x.kind = 3 ∨ x.kind = 4 ∨ x.kind = 6 ∨ x.kind = 7 ∨ x.kind = 8) ∧ (x.a = 0 ∨ x.kind = 2 ∨ x.kind = 4 ∨ x.kind = 3 ∨ x.kind = 5 ∨ x.kind = 7 ∨ x.kind = 8) ∧
  (x.b = 0 ∨ x.kind = 3 ∨ x.kind = 5) ∧ (x.n = 0 ∨ x.kind = 1 ∨ x.kind = 6) ∧ (x.args = [] ∨ x.kind = 6)
instance (x : Ins) : Decidable (plainR x) := by unfold plainR; infer_instance
theorem zeroM_plain {x : Ins} {k : Nat} {nm : ByteArray} (hk : x.kind = (k : Int)) (h1 : 1 ≤ k) (hs : namesL[k]? = some nm) : zeroM x nm = decide (plainR x) := by
  have hk9 : k < 9 := (List.getElem?_eq_some_iff.1 hs).1
  have : k = 1 ∨ k = 2 ∨ k = 3 ∨ k = 4 ∨ k = 5 ∨ k = 6 ∨ k = 7 ∨ k = 8 := by omega
  rw [Bool.eq_iff_iff, decide_eq_true_eq]
  unfold plainR
  rw [hk]
  rcases this with rfl | rfl | rfl | rfl | rfl | rfl | rfl | rfl <;> (cases hs; simp [zeroM, List.range, List.range.loop, setM, hasM, letters, ByteArray.size])
def lowR (s : Int) : Int := if 0 ≤ s then 23 else 21
def insRM (x : Ins) (n s : Int) : Int :=
  if ¬ (1 ≤ x.kind ∧ x.kind ≤ (if 0 ≤ s then 8 else 6)) ∨ ¬ plainR x ∨ (x.kind = 3 ∧ ¬ (1 ≤ x.op ∧ x.op ≤ 7)) then 20
  else if 3 < x.args.length then 25
  else if (namedM x).all (inR n) = false then lowR s
  else if (x.kind = 7 ∧ ¬ (0 ≤ x.d ∧ x.d < s)) ∨ (x.kind = 8 ∧ ¬ (0 ≤ x.a ∧ x.a < s)) then 24 else 0
/-- The loop that looks at each named number. -/
theorem ref_loop {R : Value → List (List Value) → H → Prop} {G : List Value} {L : Lv} {h : H} {v : Value} {l : List Int} {n s : Int} {j k : Nat} {fin : Out} (hv : IntsAt h v l) (hj : gv G j = v) (hjk : j < k) (h8 : 8 < k) (hk : G.length = k)
    (hn : gv G 7 = .int .i64 n) (hs : gv G 8 = .int .i64 s) (hl : l.length ≤ 100000) (H1 : l.all (inR n) = false → R (Value.int .i64 (lowR s)) [] h) (H0 : l.all (inR n) = true → ∀ i J, holds Try.prog R fin (G ++ [i]) J h) :
    holds Try.prog R (.loop 0 [(.int .i64 (.lit 0))] [.int .i64] (.ite (.cmp .lss (.var k) (.len j)) (.need (.tt true) [(.cmp .geq (.var k) (.lit 0)), (.cmp .lss (.var k) (.len j))]
       (.load (.tt true) (.idx (.var j) (.var k) 1) [.int .i64]
       (.need (.not (.cmp .lss (.var (k + 1)) (.lit 0))) [(.cmp .geq (.var k) (.lit 0)), (.cmp .lss (.var k) (.len j))]
       (.load (.not (.cmp .lss (.var (k + 1)) (.lit 0))) (.idx (.var j) (.var k) 1) [.int .i64]
       (.ite (.ite (.cmp .lss (.var (k + 1)) (.lit 0)) (.tt true) (.cmp .geq (.var (k + 2)) (.var 7)))
        (.ite (.cmp .geq (.var 8) (.lit 0)) (.done (.int .i64 (.lit 23)) []) (.done (.int .i64 (.lit 21)) []))
        (.again 0 [(.int .i64 (.op .add .i64 (.var k) (.lit 1)))]))))))
       fin)) G L h := by
  refine h_range (n := l.length) (fun i h' => h' = h ∧ ∀ m, m < i → ∀ y, l[m]? = some y → inR n y = true) (by rw [hj]; exact hv.len) hjk hk (by omega) ⟨rfl, fun m hm => absurd hm (Nat.not_lt_zero _)⟩ ?_ ?_
  · rintro i h' J hi ⟨rfl, hI⟩ hJ
    have hy : l[i]? = some l[i] := List.getElem?_eq_getElem hi
    generalize l[i] = y at hy
    have e1 : gv (G ++ [Value.int .i64 (i : Int)]) k = .int .i64 (i : Int) := by rw [← hk]; exact gv_last
    have e2 : gv (G ++ [Value.int .i64 (i : Int)]) j = v := by rw [gv_of_lt (by omega), hj]
    have hr : Reads h' ((PE.idx (.var j) (.var k) 1).den (G ++ [Value.int .i64 (i : Int)])) [.int .i64 y] := by
      simp only [PE.den, X.den, e1, e2, vi_int, Int.toNat_natCast]
      exact hv.read hy
    refine h_load [.int .i64 y] ⟨⟨_, rfl⟩, trivial⟩ (fun _ => hr) ?_
    have hL1 : (G ++ [Value.int .i64 (i : Int)]).length = k + 1 := by simp [hk]
    have e3 : gv (G ++ [Value.int .i64 (i : Int)] ++ [Value.int .i64 y]) (k + 1) = .int .i64 y := by rw [← hL1]; exact gv_last
    have e5 : gv (G ++ [Value.int .i64 (i : Int)] ++ [Value.int .i64 y]) k = .int .i64 (i : Int) := by rw [gv_of_lt (by simp; omega), e1]
    have e6 : gv (G ++ [Value.int .i64 (i : Int)] ++ [Value.int .i64 y]) j = v := by rw [gv_of_lt (by simp; omega), e2]
    refine ⟨fun _ => ?_, h_load [.int .i64 y] ⟨⟨_, rfl⟩, trivial⟩ (fun _ => ?_) ?_⟩
    · simp only [needs, X.den, e5, e6, hv.len, vb_bool, vi_int, cmp_lss, cmp_geq, decide_eq_true_eq, and_true]
      omega
    · simp only [PE.den, X.den, e5, e6, vi_int, Int.toNat_natCast]
      exact hv.read hy
    have hL2 : (G ++ [Value.int .i64 (i : Int)] ++ [Value.int .i64 y]).length = k + 2 := by simp [hk]
    have f3 : gv (G ++ [Value.int .i64 (i : Int)] ++ [Value.int .i64 y] ++ [Value.int .i64 y]) (k + 2) = .int .i64 y := by rw [← hL2]; exact gv_last
    have f1 : gv (G ++ [Value.int .i64 (i : Int)] ++ [Value.int .i64 y] ++ [Value.int .i64 y]) (k + 1) = .int .i64 y := by rw [gv_of_lt (by simp; omega), e3]
    have f4 : gv (G ++ [Value.int .i64 (i : Int)] ++ [Value.int .i64 y] ++ [Value.int .i64 y]) 7 = .int .i64 n := by rw [gv_of_lt (by simp; omega), gv_of_lt (by simp; omega), gv_of_lt (by omega), hn]
    have f8 : gv (G ++ [Value.int .i64 (i : Int)] ++ [Value.int .i64 y] ++ [Value.int .i64 y]) 8 = .int .i64 s := by rw [gv_of_lt (by simp; omega), gv_of_lt (by simp; omega), gv_of_lt (by omega), hs]
    have f5 : gv (G ++ [Value.int .i64 (i : Int)] ++ [Value.int .i64 y] ++ [Value.int .i64 y]) k = .int .i64 (i : Int) := by rw [gv_of_lt (by simp; omega), e5]
    refine h_ite (fun hc => ?_) (fun hc => ?_)
    · have hF : l.all (inR n) = false := by
        simp only [X.den, f1, f3, f4, vb_ite, vb_bool, vi_int, cmp_lss, cmp_geq, decide_eq_true_eq] at hc
        rw [List.all_eq_false]
        refine ⟨y, List.mem_of_getElem? hy, ?_⟩
        unfold inR; grind
      have hR := H1 hF
      unfold lowR at hR
      refine h_ite (fun hd => ?_) (fun hd => ?_) <;> simp only [X.den, f8, vi_int, vb_bool, cmp_geq, decide_eq_true_eq, decide_eq_false_iff_not] at hd
      · rw [if_pos hd] at hR; exact hR
      · rw [if_neg hd] at hR; exact hR
    · show J _ _
      simp only [SV.denL, SV.den, X.den, f5, vi_int]
      refine hJ _ ⟨rfl, fun m hm z hz => ?_⟩
      rcases Nat.lt_succ_iff_lt_or_eq.1 hm with h | rfl
      · exact hI m h z hz
      · rw [hy] at hz; cases hz
        simp only [X.den, f1, f3, f4, vb_ite, vb_bool, vi_int, cmp_lss, cmp_geq, decide_eq_true_eq] at hc
        unfold inR; grind
  · rintro h' J ⟨rfl, hI⟩
    refine H0 ?_ _ _
    rw [List.all_eq_true]
    intro y hy
    obtain ⟨m, hm⟩ := List.getElem?_of_mem hy
    exact hI m (List.getElem?_eq_some_iff.1 hm).1 y hm
theorem insRM_20 {x : Ins} {n s : Int} (h : ¬ (1 ≤ x.kind ∧ x.kind ≤ (if 0 ≤ s then 8 else 6)) ∨ ¬ plainR x ∨ (x.kind = 3 ∧ ¬ (1 ≤ x.op ∧ x.op ≤ 7))) : insRM x n s = 20 := by unfold insRM; rw [if_pos h]
theorem fin_ref {R : Value → List (List Value) → H → Prop} {G : List Value} {L : Lv} {h : H} {x : Ins} {n s : Int} (e0 : gv G 0 = .int .u8 x.kind) (e2 : gv G 2 = .int .i64 x.d) (e3 : gv G 3 = .int .i64 x.a) (e8 : gv G 8 = .int .i64 s)
    (hof : insRM x n s = if (x.kind = 7 ∧ ¬ (0 ≤ x.d ∧ x.d < s)) ∨ (x.kind = 8 ∧ ¬ (0 ≤ x.a ∧ x.a < s)) then 24 else 0) (H : R (Value.int .i64 (insRM x n s)) [] h) :
    holds Try.prog R (.ite (.ite (.ite (.cmp .eql (.var 0) (.lit 7)) (.ite (.cmp .lss (.var 2) (.lit 0)) (.tt true) (.cmp .geq (.var 2) (.var 8))) (.tt false)) (.tt true) (.ite (.cmp .eql (.var 0) (.lit 8)) (.ite (.cmp .lss (.var 3) (.lit 0)) (.tt true) (.cmp .geq (.var 3) (.var 8))) (.tt false)))
        (.done (.int .i64 (.lit 24)) [])
        (.done (.int .i64 (.lit 0)) [])) G L h := by
  rw [hof] at H
  refine h_ite (fun hc => ?_) (fun hc => ?_) <;> simp only [X.den, e0, e2, e3, e8, vb_ite, vb_bool, vi_int, cmp_lss, cmp_geq, cmp_eql, decide_eq_true_eq] at hc
  · rw [if_pos (by grind)] at H; exact H
  · rw [if_neg (by grind)] at H; exact H
theorem s45 {h : H} (x : Ins) (v : Value) (n s : Int) (hv : IntsAt h v x.args) :
    CallsA Try.prog 45 (fun _ => [.agg (insC x v).toArray, .int .i64 n, .int .i64 s]) [] h (Ret fun r h' => h.le h' ∧ r = .int .i64 (insRM x n s)) := by
  refine c45 (G := insG x v [.int .i64 n, .int .i64 s]) (insGFit x v hv.fit ⟨⟨_, rfl⟩, ⟨_, rfl⟩, trivial⟩) ?_
  have hl := hv.len
  refine h_ite (fun hc => ?_) (fun hc => ⟨rfl, H.le_refl _, ?_⟩)
  rotate_left
  · simp only [holds, X.den, PE.den, SV.den, SV.denL, NK.val, NK.sv, NK.pub, gv_zero, gv_succ, vi_int, vb_bool, vlen_sl, vaddr_ptr, vb_ite, vi_ite, cmp_eql, cmp_neq, cmp_lss, cmp_leq, cmp_gtr, cmp_geq, List.map_nil, List.map_cons, List.cons_append, List.nil_append, List.flatten_nil, needs, Ret, true_and, and_true, decide_eq_true_eq, forall_const, intOp, insG] at hc ⊢
    rw [insRM_20 (by grind)]
  simp only [holds, X.den, PE.den, SV.den, SV.denL, NK.val, NK.sv, NK.pub, gv_zero, gv_succ, vi_int, vb_bool, vlen_sl, vaddr_ptr, vb_ite, vi_ite, cmp_eql, cmp_neq, cmp_lss, cmp_leq, cmp_gtr, cmp_geq, List.map_nil, List.map_cons, List.cons_append, List.nil_append, List.flatten_nil, needs, Ret, true_and, and_true, decide_eq_true_eq, forall_const, intOp, insG] at hc
  have hkr : 1 ≤ x.kind ∧ x.kind ≤ (if 0 ≤ s then 8 else 6) := by grind
  obtain ⟨k, hk⟩ : ∃ k : Nat, x.kind = (k : Int) := ⟨x.kind.toNat, by omega⟩
  have hk8 : k ≤ 8 := by split at hkr <;> omega
  obtain ⟨nm, hnm⟩ : ∃ nm, namesL[k]? = some nm := ⟨_, List.getElem?_eq_getElem (by simp [namesL]; omega)⟩
  have hnz : nm.size ≤ 1000 := by
    have : k = 0 ∨ k = 1 ∨ k = 2 ∨ k = 3 ∨ k = 4 ∨ k = 5 ∨ k = 6 ∨ k = 7 ∨ k = 8 := by omega
    rcases this with rfl | rfl | rfl | rfl | rfl | rfl | rfl | rfl | rfl <;> cases hnm <;> simp [ByteArray.size]
  have hz := zeroM_plain (x := x) hk (by omega) hnm
  refine h_call0 (Q := fun r h' => h.le h' ∧ r = .string nm) (by have := s47 (h := h) (k := k) hnm; rw [← hk] at this; exact this) ?_
  rintro _ h1 ⟨hl1, rfl⟩
  refine ⟨[.string nm], ⟨⟨_, rfl⟩, trivial⟩, rfl, h_call0 (s46 x v nm (hv.le hl1) hnz) ?_⟩
  rintro _ h2 ⟨hl2, rfl⟩
  replace hl2 := hl1.trans hl2
  rw [hz]
  refine ⟨[.bool (decide (plainR x))], ⟨⟨_, rfl⟩, trivial⟩, rfl, h_ite (fun hp => ⟨rfl, hl2, ?_⟩) (fun hp => h_ite (fun ha => ⟨rfl, hl2, ?_⟩) (fun ha => ?_))⟩
  · simp only [holds, X.den, PE.den, SV.den, SV.denL, NK.val, NK.sv, NK.pub, gv_zero, gv_succ, vi_int, vb_bool, vlen_sl, vaddr_ptr, vb_ite, vi_ite, cmp_eql, cmp_neq, cmp_lss, cmp_leq, cmp_gtr, cmp_geq, List.map_nil, List.map_cons, List.cons_append, List.nil_append, List.flatten_nil, needs, Ret, true_and, and_true, decide_eq_true_eq, forall_const, intOp, insG] at hp ⊢
    rw [insRM_20 (by grind)]
  · simp only [holds, X.den, PE.den, SV.den, SV.denL, NK.val, NK.sv, NK.pub, gv_zero, gv_succ, vi_int, vb_bool, vlen_sl, vaddr_ptr, vb_ite, vi_ite, cmp_eql, cmp_neq, cmp_lss, cmp_leq, cmp_gtr, cmp_geq, List.map_nil, List.map_cons, List.cons_append, List.nil_append, List.flatten_nil, needs, Ret, true_and, and_true, decide_eq_true_eq, forall_const, intOp, insG] at hp ha ⊢
    rw [hl] at ha
    unfold insRM
    rw [if_neg (by grind), if_pos (by omega)]
  simp only [holds, X.den, PE.den, SV.den, SV.denL, NK.val, NK.sv, NK.pub, gv_zero, gv_succ, vi_int, vb_bool, vlen_sl, vaddr_ptr, vb_ite, vi_ite, cmp_eql, cmp_neq, cmp_lss, cmp_leq, cmp_gtr, cmp_geq, List.map_nil, List.map_cons, List.cons_append, List.nil_append, List.flatten_nil, needs, Ret, true_and, and_true, decide_eq_true_eq, forall_const, intOp, insG] at hp ha
  rw [hl] at ha
  simp only [decide_eq_false_iff_not, Int.not_lt] at ha
  have hof : insRM x n s = if (namedM x).all (inR n) = false then lowR s else if (x.kind = 7 ∧ ¬ (0 ≤ x.d ∧ x.d < s)) ∨ (x.kind = 8 ∧ ¬ (0 ≤ x.a ∧ x.a < s)) then 24 else 0 := by
    unfold insRM; rw [if_neg (by grind), if_neg (by omega)]
  clear hp hc
  intro b0 hb0
  have hl3 := hl2.trans (H.le_put (o := .cells ([] : List Value).toArray 3 (0, 0)) hb0)
  have hown : OwnInts h (h2.put b0 (.cells (([] : List Int).map (Value.int .i64)).toArray 3 (0, 0))) (.slice (some ⟨b0, 0, none⟩) 0 0) [] := own_new (l := []) (H.le_none hl2 hb0)
  refine h_call0 (s21 x v (hv.le hl3)) ?_
  rintro u h4 ⟨hl4, hu⟩
  have hul := usesM_len (x := x) (by omega)
  have hui := hu.len
  have hown4 := hown.le hl4
  have hl5 := hl3.trans hl4
  refine ⟨[u], ⟨hu.fit, trivial⟩, rfl, ?_⟩
  refine ⟨(usesM x).map (.int .i64), (usesM x).length, ⟨by simp, by simp [Value.oneCell'], hu.src⟩, ?_⟩
  refine app_row (h0 := h) (cs := []) hown4 hl5 (by simp) (by rw [zero3]; rfl) ?_ ?_
  · show (0 + (usesM x).length) * 8 ≤ _; omega
  intro w h5 k1 k2 k3 k4 k5
  have k1' : OwnInts h h5 w (usesM x) := k1
  have hwl := k1'.ints.len
  refine h_call0 (s24 (h := h5) x.kind) ?_
  rintro _ _ ⟨rfl, rfl⟩
  refine ⟨[.bool (givesM x.kind)], ⟨⟨_, rfl⟩, trivial⟩, rfl, h_ite (fun hg => ?_) (fun hg => ?_)⟩
  · have hg' : givesM x.kind = true := hg
    have hN : namedM x = usesM x ++ [x.d] := by unfold namedM; rw [if_pos hg']
    rw [hN] at hof
    refine ⟨[.int .i64 x.d], 1, ⟨rfl, rfl⟩, app_row k1' k3 rfl (by rw [zero3]; rfl) ?_ ?_⟩
    · show (vlen w + 1) * 8 ≤ _; omega
    intro v' h' j1 j2 j3 j4 j5
    have j1' : OwnInts h h' v' (usesM x ++ [x.d]) := by unfold OwnInts; rw [List.map_append]; exact j1
    refine ref_loop (v := v') (l := usesM x ++ [x.d]) (n := n) (s := s) j1'.ints rfl (by omega) (by omega) rfl rfl rfl (by simp; omega) (fun e => ⟨rfl, j3, ?_⟩) (fun e i J => ?_)
    · rw [hof, if_pos e]
    · rw [if_neg (by rw [e]; simp)] at hof
      exact fin_ref rfl rfl rfl rfl hof ⟨rfl, j3, rfl⟩
  · have hg' : givesM x.kind = false := hg
    have hN : namedM x = usesM x := by unfold namedM; rw [hg']; simp
    rw [hN] at hof
    refine ref_loop (v := w) (l := usesM x) (n := n) (s := s) k1'.ints rfl (by omega) (by omega) rfl rfl rfl (by omega) (fun e => ⟨rfl, k3, ?_⟩) (fun e i J => ?_)
    · rw [hof, if_pos e]
    · rw [if_neg (by rw [e]; simp)] at hof
      exact fin_ref rfl rfl rfl rfl hof ⟨rfl, k3, rfl⟩
theorem insRM_ir (x : Ins) (n : Int) : insRM x n (-1) = ofM x n := by
  unfold insRM ofM lowR plainR plainM
  by_cases h6 : 1 ≤ x.kind ∧ x.kind ≤ 6
  · have e : ¬ (0 : Int) ≤ -1 := by omega
    simp only [e, if_false]
    grind (splits := 80)
  · rw [if_pos (.inl (by simpa using h6)), if_pos (.inl h6)]
theorem ofM_mapE (x : Ins) (r : Int) (h3 : 3 ≤ r) (h8 : r ≤ 8) : mapE (checkM 0 r [⟨[x], ⟨1, 0, 0, 0⟩⟩]).1 = mapE (ofM x r) := by
  unfold checkM
  rw [if_neg (by simp; omega)]
  simp only [blkF, insF, List.length_cons, List.length_nil]
  rw [if_neg (by omega)]
  by_cases h0 : ofM x r = 0
  · simp [h0, endM]
  · simp [h0]
theorem insRM_mach (x : Ins) (r s : Int) (h3 : 3 ≤ r) (h8 : r ≤ 8) (hs : 0 ≤ s) : insRM x r s = mofM x r s := by
  unfold mofM
  rw [ofM_mapE x r h3 h8]
  unfold insRM ofM lowR plainR plainM mapE
  simp only [hs, if_true, namedM, usesM, givesM]
  by_cases h8 : x.kind = 8
  · simp [h8, inR]; grind (splits := 80)
  by_cases h7 : x.kind = 7
  · simp [h7, inR]; grind (splits := 80)
  simp only [h8, h7, if_false, or_false, false_and]
  grind (splits := 80)
end Go.Proofs.Ytibdneedfopcoaa
