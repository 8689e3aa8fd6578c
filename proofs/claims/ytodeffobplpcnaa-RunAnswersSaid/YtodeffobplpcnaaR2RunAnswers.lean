/-
  The law RunAnswers answers true. Conditions: none.
-/
import Derived.Test.YtodeffobplpcnaaR2N
import Derived.Test.YtodeffobplpcnaaPc
import Derived.Test.YtodeffobplpcnaaRows
set_option linter.unusedVariables false
set_option linter.unusedSimpArgs false
namespace Go.Proofs.Ytodeffobplpcnaa
open Go Go.ChangeShapes Go.WideShapes Go.ChangeAt Go.RowKit

def wm (s : Rs) (m : List Int) : Rs := { s with more := m }
theorem endS_wm {e : Fin4} {s : Rs} {m : List Int} : endS e (wm s m) = (wm (endS e s).1 m, (endS e s).2) := by
  by_cases hl : s.left = 0
  · rw [endS_0 hl, endS_0 (s := wm s m) hl]; rfl
  · by_cases k3 : e.kind = 3
    · rw [endS_3 hl k3, endS_3 (s := wm s m) hl k3]; rfl
    · by_cases k : e.kind = 2 ∧ getP s e.a = 0
      · rw [endS_b hl k3 k, endS_b (s := wm s m) hl k3 k]; rfl
      · rw [endS_t hl k3 k, endS_t (s := wm s m) hl k3 k]; rfl
theorem stepM_wm {R : Int} {x : Ins} {s : Rs} {m : List Int} (h : x.kind ≠ 6 ∨ s.left = 0) : stepM R x (wm s m) = (wm (stepM R x s).1 m, (stepM R x s).2) ∧ (stepM R x s).1.more = s.more ∧ (stepM R x s).1.calls = s.calls := by
  by_cases hp : Paid x
  · by_cases hl : s.left = 0
    · rw [stepM_0 hp hl, stepM_0 (s := wm s m) hp hl]; exact ⟨rfl, rfl, rfl⟩
    · have h6 : x.kind ≠ 6 := h.resolve_right hl
      rcases stepK R x s with ⟨h', -, -⟩ | ⟨-, -, t', b, ⟨k1, k2, k3, -⟩, k⟩ | h'
      · exact absurd hp h'
      · have e1 := (show stepM R x s = _ from k s.left s.more hl)
        have e2 := (show stepM R x (wm s m) = _ from k s.left m hl)
        rw [e1, e2]
        exact ⟨rfl, rfl, k1⟩
      · exact absurd h' h6
  · rcases stepK R x s with ⟨-, p, k⟩ | ⟨h', -, -, -, -, -⟩ | h'
    · have e1 := (show stepM R x s = _ from k s.left s.more)
      have e2 := (show stepM R x (wm s m) = _ from k s.left m)
      rw [e1, e2]; exact ⟨rfl, rfl, rfl⟩
    · exact absurd h' hp
    · exact absurd (by unfold Paid; omega) hp
theorem head_getD (l : List Int) : l.headD 0 = l.getD 0 0 := by cases l <;> rfl
theorem tail_getD (l : List Int) (i : Nat) : l.tail.getD i 0 = l.getD (i + 1) 0 := by cases l <;> simp [List.getD_eq_getElem?_getD]
theorem Runs.answers {bs : List Blk} {R : Int} {b k : Nat} {s t : Rs} (h : Runs bs R b k s t) : ∀ {m : List Int}, (∀ i, s.calls.length + i < t.calls.length → s.more.getD i 0 = m.getD i 0) → ∃ m', Runs bs R b k (wm s m) (wm t m') := by
  induction h with
  | stop h1 h2 h3 =>
    rename_i b' k' s' t' x' y'
    intro m hm
    have h6 : y'.kind ≠ 6 ∨ s'.left = 0 := by
      by_cases h6 : y'.kind = 6
      · right
        by_cases hl : s'.left = 0
        · exact hl
        · rw [stepM_6 h6 hl] at h3; cases h3
      · exact .inl h6
    have := (stepM_wm (R := R) (m := m) h6).1
    rw [h3] at this
    exact ⟨m, .stop h1 h2 this⟩
  | step h1 h2 h3 h4 ih =>
    rename_i b' k' s' t' f' x' y'
    intro m hm
    by_cases h6 : y'.kind = 6
    · have hl : s'.left ≠ 0 := fun hl => by rw [stepM_0 (by unfold Paid; omega) hl] at h3; cases h3
      have e1 := stepM_6 (R := R) h6 hl
      have e2 := stepM_6 (R := R) (s := wm s' m) h6 hl
      rw [h3] at e1
      simp only [Prod.mk.injEq, and_true] at e1
      have hg := h4.grow.length_le
      have hcl : t'.calls.length = s'.calls.length + 1 := by rw [e1]; simp [setP]
      have hmo : t'.more = s'.more.tail := by rw [e1]; rfl
      have h0 := hm 0 (by omega)
      obtain ⟨m', hm'⟩ := ih (m := m.tail) (fun i hi => by rw [hmo, tail_getD, tail_getD]; exact hm (i + 1) (by omega))
      refine ⟨m', .step h1 h2 (t := wm t' m.tail) ?_ hm'⟩
      rw [e2, e1]
      have e : (wm s' m).more.headD 0 = s'.more.headD 0 := by rw [head_getD, head_getD]; exact h0.symm
      rw [e]; rfl
    · obtain ⟨e1, e2, e3⟩ := stepM_wm (R := R) (s := s') (m := m) (.inl h6)
      rw [h3] at e1 e2 e3
      obtain ⟨m', hm'⟩ := ih (m := m) (fun i hi => by rw [e2]; refine hm i ?_; rw [e3] at hi; exact hi)
      exact ⟨m', .step h1 h2 e1 hm'⟩
  | fin h1 h0 h2 =>
    rename_i b' k' s' t' x'
    intro m hm
    have := endS_wm (e := x'.en) (s := s') (m := m)
    rw [h2] at this
    exact ⟨m, .fin h1 h0 this⟩
  | go h1 h0 h2 h4 ih =>
    rename_i b' k' s' t' f' x' c'
    intro m hm
    have e := endS_wm (e := x'.en) (s := s') (m := m)
    rw [h2] at e
    have e3 : t'.calls = s'.calls := by have := endS_calls (e := x'.en) (s := s'); rw [h2] at this; exact this
    have e2 : t'.more = s'.more := by
      have : (endS x'.en s').1.more = s'.more := by unfold endS; split <;> (try rfl); split <;> (try rfl); split <;> rfl
      rw [h2] at this; exact this
    obtain ⟨m', hm'⟩ := ih (m := m) (fun i hi => by rw [e2]; refine hm i ?_; rw [e3] at hi; exact hi)
    exact ⟨m', .go h1 h0 e hm'⟩
theorem src_ints {h : H} {v : Value} {l : List Int} (hv : IntsAt h v l) : SlSrc h (l.map (.int .i64)) l.length v := by
  have hl := hv.len
  have ha := hv.all
  obtain ⟨a, n, c, rfl, h1, h2⟩ := hv.fit
  simp only [vlen_sl] at hl
  cases a with
  | none => obtain ⟨rfl, rfl⟩ := h1 rfl; exact ⟨hl.symm, rfl⟩
  | some ad => exact ⟨hl.symm, ha⟩
theorem ints_cell {l : List Int} : ∀ v ∈ l.map (Value.int .i64), v.oneCell' = true := fun v hv => by rw [List.mem_map] at hv; obtain ⟨q, _, rfl⟩ := hv; rfl
def MX : X := .ite (.cmp .lss (.len 15) (.len 19)) (.len 15) (.len 19)
theorem mx_val {G : List Value} {a c : Nat} (e1 : vlen (gv G 15) = a) (e2 : vlen (gv G 19) = c) : vi (MX.den G) = ((min c a : Nat) : Int) := by
  simp only [MX, X.den, e1, e2, vi_ite, vi_int, vb_bool, cmp_lss, decide_eq_true_eq]
  split <;> omega
theorem ans_end {h0 h : H} {A M : List Value} {L : Lv} {P V : Nat} {u av mv nv cv : Value} {bs : List Blk} {args mem ans : List Int} {fuel : Int} {t : Rs} {j e q d : Nat} (hAl : A.length = 17) (m1 : t.mem.length = 64) (c1 : CallsAt h cv t.calls) (hco : CallsOk t)
    (gA : gv A 10 = .int .i64 (P : Int) ∧ gv A 11 = .int .i64 (V : Int) ∧ gv A 12 = u ∧ gv A 13 = av ∧ gv A 14 = mv ∧ gv A 16 = .int .i64 fuel) (hj : j = 85 + d) (gM : gv M d = nv) (gM0 : gv M 0 = .int .i64 0) (hM0 : 0 < M.length)
    (hu : BlksAt h u bs) (ha : IntsAt h av args) (hm : IntsAt h mv mem) (hn : IntsAt h nv ans) (hck : checkM (P : Int) (V : Int) bs = (0, 0, 0)) (hf : 0 ≤ fuel ∧ fuel < 400) (hal : args.length = P)
    (hrun : ∃ m', Runs bs V 0 0 (start V 0 args mem ans fuel) (wm t m')) (hle : h0.le h) (he : e = 153 + M.length) (hq : q = 154 + M.length) :
    holds Try.prog (Ret fun r h' => h0.le h' ∧ r = .bool true)
      (.call 18 [(.agg [(.int .i64 (.var 10)), (.int .i64 (.var 11)), (.val 12)]), (.agg [(.val 13), (.val 14), (.val j), (.int .i64 (.var 16))])] [] [] [] [(true, outSh), (false, [.int .i64])]
        (.ite (.ite (.cmp .eql (.var 85) (.lit 0)) (.cmp .eql (.var e) (.lit 0)) (.tt false))
          (.call 19 [.agg (Sh.svs 17 outSh), .agg (Sh.svs (85 + M.length) outSh)] [] [] [] [(false, [.bool])] (.done (.bool (.var q)) []))
          (.done (.bool (.tt false)) []))) (A ++ (outC t cv ++ M)) L h := by
  have gB : ∀ (D : List Value) (i : Nat), i < 17 → gv (A ++ D) i = gv A i := fun D i hi => gv_of_lt (by omega)
  obtain ⟨a10, a11, a12, a13, a14, a16⟩ := gA
  refine h_callO2 (Q := fun t2 e2 h' => h.le h' ∧ CallsOk t2 ∧ RunSpec P V bs args mem ans fuel e2 t2) ?_ ?_
  · have := s18 (p := P) (n := V) (fuel := fuel) hu ha hm hn
    simp only [SV.denL, SV.den, X.den]
    rw [gB _ 10 (by omega), gB _ 11 (by omega), gB _ 12 (by omega), gB _ 13 (by omega), gB _ 14 (by omega), gB _ 16 (by omega), a10, a11, a12, a13, a14, a16]
    have e1 : gv (A ++ (outC t cv ++ M)) j = nv := by
      subst hj
      have := gOe (A := A) (B := M) (cv := cv) (j := d) hAl m1
      rw [gM] at this; exact this
    rw [e1]
    exact this.post fun r h' q => q
  rintro t2 e2 cv2 h2 m2 c2 ⟨hl2, hco2, hsp2⟩
  obtain ⟨rfl, hrun2⟩ := run_made hck hf hal hsp2
  obtain ⟨m', hm'⟩ := hrun
  have heq := hm'.same hrun2
  subst heq
  have eG : A ++ (outC t cv ++ M) ++ (outC (wm t m') cv2 ++ [Value.int .i64 0]) = A ++ (outC t cv ++ (M ++ (outC (wm t m') cv2 ++ [.int .i64 0]))) := by simp
  have hAl2 : (A ++ (outC t cv ++ M)).length = 85 + M.length := by simp [hAl, outC_len m1]; omega
  have f1 := gOe (A := A) (B := M ++ (outC (wm t m') cv2 ++ [.int .i64 0])) (cv := cv) (j := 0) hAl m1
  rw [gv_of_lt (G := M) hM0, gM0, ← eG] at f1
  have f2 := gOe (A := A ++ (outC t cv ++ M)) (B := [.int .i64 0]) (cv := cv2) (j := 0) hAl2 m2
  refine iteT (both_ok f1 (by rw [he]; rw [show 153 + M.length = 85 + M.length + 68 + 0 by omega]; exact f2)) ?_
  refine h_same (A := A) (M := M) (D := [.int .i64 0]) eG m1 m2 (SlAt.le callC_mono hl2 c1) c2 ⟨rfl, rfl, rfl, rfl, rfl⟩ hco (by rw [hAl]) (by rw [hAl]) ?_
  refine ⟨rfl, hle.trans hl2, ?_⟩
  simp only [SV.den, X.den]
  rw [hq, gv_at (j := 0) (by simp [hAl, outC_len m1, outC_len m2]; omega)]; rfl
set_option maxRecDepth 20000 in
theorem s8 {h : H} {vs kv av mv nv : Value} {p0 p1 p2 fuel : Int} {l ml args mem ans : List Int} (hs : BytesAt h vs l) (h0 : 0 ≤ p0) (h1 : 0 ≤ p1) (h2 : 0 ≤ p2) (ha : IntsAt h av args) (hm : IntsAt h mv mem) (hn : IntsAt h nv ans) (hkv : IntsAt h kv ml) :
    CallsA Try.prog 8 (fun _ => [.agg #[.int .u8 p0, .int .u8 p1, .int .u8 p2, vs], .agg #[av, mv, nv, .int .i64 fuel], kv]) [] h (Ret fun r h' => h.le h' ∧ r = .bool true) := by
  refine c8 (G := [.int .u8 p0, .int .u8 p1, .int .u8 p2, vs, av, mv, nv, .int .i64 fuel, kv]) ⟨⟨_, rfl⟩, ⟨_, rfl⟩, ⟨_, rfl⟩, hs.fit, ha.fit, hm.fit, hn.fit, ⟨_, rfl⟩, hkv.fit, trivial⟩ ?_
  refine h_call0 s15 ?_
  rintro _ g1 ⟨hl1, rfl⟩
  refine ⟨[.bool true], ⟨⟨_, rfl⟩, trivial⟩, rfl, h_ite (fun hc => by cases hc) (fun _ => h_ite (fun hc => ⟨rfl, hl1, rfl⟩) (fun hkl => h_call0 (s16 (p0 := p0) (p1 := p1) (p2 := p2) (hs.le hl1) h0 h1 h2) ?_))⟩
  replace hkl : cmpOp .gtr ((vlen kv : Nat) : Int) 50 = false := hkl
  rw [hkv.len, cmp_gtr, decide_eq_false_iff_not] at hkl
  rintro _ g2 ⟨hk2, u, fp, rfl, hu, hf, hnd⟩
  have hl2 := hl1.trans hk2.le_nil
  have F := made_fun h0 h1 h2 hs.inB
  refine ⟨[.int .i64 (madeP p0), .int .i64 (madeV p0 p1), u], ⟨⟨_, rfl⟩, ⟨_, rfl⟩, hu.at.fit, trivial⟩, rfl, ?_⟩
  obtain ⟨P, V, hP, hV, hPl, hVl, hPV, hck, hok, hb1, hb2⟩ := F
  rw [hP, hV]
  simp only [List.cons_append, List.nil_append]
  refine h_call0 (s17 (p := P) (fuel := fuel) (ha.le hl2) (hm.le hl2) (hn.le hl2) (by omega)) ?_
  rintro _ g3 ⟨u', m', n', rfl, hl3, iu, im, inn⟩
  have hl3' := hl2.trans hl3
  refine ⟨[u', m', n', .int .i64 (fuelM fuel)], ⟨iu.fit, im.fit, inn.fit, ⟨_, rfl⟩, trivial⟩, rfl, ?_⟩
  simp only [List.cons_append, List.nil_append]
  have hfr := fuelM_range fuel
  have hB3 := SlAt.le blkC_mono hl3 hu.at
  refine h_callO2 (Q := fun t e h' => g3.le h' ∧ CallsOk t ∧ RunSpec P V (madeB p0 p1 p2 l) (inArgs args P) (mem.take 100) (ans.take 100) (fuelM fuel) e t) ((s18 (p := P) (n := V) (fuel := fuelM fuel) hB3 iu im inn).post fun r h' q => q) ?_
  rintro t e cv g4 m1 c1 ⟨hl4, hco, hsp⟩
  obtain ⟨rfl, hrun⟩ := run_made hck hfr (inArgs_len args P) hsp
  obtain ⟨A, hA⟩ : ∃ A, A = [Value.int .u8 p0, .int .u8 p1, .int .u8 p2, vs, av, mv, nv, .int .i64 fuel, kv, .bool true, .int .i64 (P : Int), .int .i64 (V : Int), u, u', m', n', .int .i64 (fuelM fuel)] := ⟨_, rfl⟩
  rw [← hA]
  have hAl : A.length = 17 := by rw [hA]; rfl
  have gA : ∀ (D : List Value) (i : Nat), i < 17 → gv (A ++ D) i = gv A i := fun D i hi => gv_of_lt (by omega)
  have g15 : ∀ D : List Value, gv (A ++ D) 15 = n' := fun D => by rw [gA _ 15 (by omega), hA]; rfl
  have g8 : ∀ D : List Value, gv (A ++ D) 8 = kv := fun D => by rw [gA _ 8 (by omega), hA]; rfl
  have g19 : ∀ D : List Value, gv (A ++ (outC t cv ++ D)) 19 = cv := fun D => (gO (A := A) (B := D) (cv := cv) (i := 2) hAl m1 (by omega)).trans (outC_gv m1).2.2.1
  have hnl := inn.len
  have hcl := c1.len
  have mx : ∀ D : List Value, vi (MX.den (A ++ (outC t cv ++ D))) = ((min t.calls.length (ans.take 100).length : Nat) : Int) := fun D => mx_val (by rw [g15]; exact hnl) (by rw [g19]; exact hcl)
  obtain ⟨z, hz⟩ : ∃ z, z = ans.take 100 := ⟨_, rfl⟩
  have hzl : z.length ≤ 100 := by rw [hz, List.length_take]; omega
  rw [← hz] at inn hnl mx hrun
  obtain ⟨n, hnn⟩ : ∃ n, n = min t.calls.length z.length := ⟨_, rfl⟩
  rw [← hnn] at mx
  refine h_alloc [] rfl fun b hbn => ?_
  have hl4b := H.le_put (o := .cells ([] : List Value).toArray 2 (0, 0)) hbn
  have er : A ++ (outC t cv ++ [Value.int .i64 0]) ++ [NK.val b (.lsl 0)] = A ++ (outC t cv ++ [Value.int .i64 0, .slice (some ⟨b, 0, none⟩) 0 0]) := by simp; rfl
  rw [er]
  have hrow : RowF (g4.put b (.cells ([] : List Value).toArray 2 (0, 0))) 2 1 (.slice (some ⟨b, 0, none⟩) 0 0) [] [b] := .inr ⟨b, 0, 0, [], rfl, H.put_same, rfl, rfl, Nat.le_refl _, rfl⟩
  generalize g4.put b (.cells ([] : List Value).toArray 2 (0, 0)) = g5 at hl4b hrow ⊢
  have inn5 := (inn.le hl4).le hl4b
  have hcap : z.length ≤ vcap n' := by
    have hl := inn.len
    obtain ⟨a, n, c, rfl, _, h3⟩ := inn.fit
    simp only [vlen_sl, vcap_sl] at hl ⊢; omega
  refine ⟨fun _ => ⟨?_, ?_, trivial⟩, ?_⟩
  · have e1 : vb ((X.cmp .geq MX (.lit 0)).den (A ++ (outC t cv ++ [Value.int .i64 0, .slice (some ⟨b, 0, none⟩) 0 0]))) = cmpOp .geq (vi (MX.den (A ++ (outC t cv ++ [Value.int .i64 0, .slice (some ⟨b, 0, none⟩) 0 0])))) 0 := rfl
    rw [mx] at e1
    exact e1.trans (ge0 _)
  · have e2 : vb ((X.cmp .leq MX (.cap 15)).den (A ++ (outC t cv ++ [Value.int .i64 0, .slice (some ⟨b, 0, none⟩) 0 0]))) = cmpOp .leq (vi (MX.den (A ++ (outC t cv ++ [Value.int .i64 0, .slice (some ⟨b, 0, none⟩) 0 0])))) (vcap (gv (A ++ (outC t cv ++ [Value.int .i64 0, .slice (some ⟨b, 0, none⟩) 0 0])) 15) : Nat) := rfl
    rw [mx, g15] at e2
    refine e2.trans ?_
    rw [cmp_leq, decide_eq_true_eq]; omega
  intro sv hsv
  replace hsv : sv = sliceV n' 0 n 1 := by
    rw [hsv]
    show sliceV (gv (A ++ (outC t cv ++ [Value.int .i64 0, .slice (some ⟨b, 0, none⟩) 0 0])) 15) 0 (vi (MX.den (A ++ (outC t cv ++ [Value.int .i64 0, .slice (some ⟨b, 0, none⟩) 0 0])))).toNat 1 = _
    rw [mx, g15, Int.toNat_natCast]
  have isl : IntsAt g5 sv (z.take n) := by
    have := inn5.slice (lo := 0) (hi := n) (by omega) (by omega)
    simp only [List.drop_zero, Nat.sub_zero] at this
    rw [hsv]; exact this
  have er2 : A ++ (outC t cv ++ [Value.int .i64 0, .slice (some ⟨b, 0, none⟩) 0 0]) ++ [sv] = A ++ (outC t cv ++ [Value.int .i64 0, .slice (some ⟨b, 0, none⟩) 0 0, sv]) := by simp
  rw [er2]
  have k86 : gv (A ++ (outC t cv ++ [Value.int .i64 0, .slice (some ⟨b, 0, none⟩) 0 0, sv])) 86 = .slice (some ⟨b, 0, none⟩) 0 0 := gOe (A := A) (cv := cv) (j := 1) hAl m1
  have k87 : gv (A ++ (outC t cv ++ [Value.int .i64 0, .slice (some ⟨b, 0, none⟩) 0 0, sv])) 87 = sv := gOe (A := A) (cv := cv) (j := 2) hAl m1
  have hzt : (z.take n).length ≤ 100 := by rw [List.length_take]; omega
  refine ⟨(z.take n).map (.int .i64), (z.take n).length, src_ok k87 (src_ints isl) (by simp) ints_cell, ?_⟩
  simp only [SV.den]
  rw [k86]
  refine app_rowF hrow (by simp) (by rw [zeroI64]; rfl) (by rw [vlen_sl]; omega) fun v1 g6 f1 r1 r2 r3 r4 => ?_
  have hf5 : Fresh g4 [b] := fun c hc => by rw [List.mem_singleton] at hc; subst hc; exact hbn
  have hk46 : g4.le g6 := r3.le hl4b hf5
  have hf1 : Fresh g4 f1 := by
    rcases r4 with rfl | ⟨c, rfl, hc⟩
    · exact hf5
    · intro d hd; rw [List.mem_singleton] at hd; subst hd; exact H.le_none hl4b hc
  have er3 : A ++ (outC t cv ++ [Value.int .i64 0, .slice (some ⟨b, 0, none⟩) 0 0, sv]) ++ [v1] = A ++ (outC t cv ++ [Value.int .i64 0, .slice (some ⟨b, 0, none⟩) 0 0, sv, v1]) := by simp
  rw [er3]
  have hA' : gv A 10 = .int .i64 (P : Int) ∧ gv A 11 = .int .i64 (V : Int) ∧ gv A 12 = u ∧ gv A 13 = u' ∧ gv A 14 = m' ∧ gv A 16 = .int .i64 (fuelM fuel) := by rw [hA]; exact ⟨rfl, rfl, rfl, rfl, rfl, rfl⟩
  have hle4 := hl3'.trans hl4
  have cmp : vb ((X.cmp .eql MX (.len 19)).den (A ++ (outC t cv ++ [Value.int .i64 0, .slice (some ⟨b, 0, none⟩) 0 0, sv, v1]))) = cmpOp .eql (vi (MX.den (A ++ (outC t cv ++ [Value.int .i64 0, .slice (some ⟨b, 0, none⟩) 0 0, sv, v1])))) (vlen (gv (A ++ (outC t cv ++ [Value.int .i64 0, .slice (some ⟨b, 0, none⟩) 0 0, sv, v1])) 19) : Nat) := rfl
  rw [mx, g19, hcl] at cmp
  have hrow1 := rowF_ints (l := z.take n) r1
  refine h_ite (fun hc => ?_) (fun hc => ?_)
  · replace hc := cmp.symm.trans hc
    rw [cmp_eql, decide_eq_true_eq] at hc
    have hnc : n = t.calls.length := by omega
    have k88 : gv (A ++ (outC t cv ++ [Value.int .i64 0, .slice (some ⟨b, 0, none⟩) 0 0, sv, v1])) 88 = v1 := gOe (A := A) (cv := cv) (j := 3) hAl m1
    refine ⟨ml.map (.int .i64), ml.length, src_ok (g8 _) (src_ints (((hkv.le hl3').le hl4).le hk46)) (by simp) ints_cell, ?_⟩
    simp only [SV.den]
    rw [k88]
    refine app_rowF r1 (by simp) (by rw [zeroI64]; rfl) (by rw [r2, vlen_sl]; omega) fun v2 g7 f2 r5 r6 r7 r8 => ?_
    have hk47 : g4.le g7 := r7.le hk46 hf1
    have er4 : A ++ (outC t cv ++ [Value.int .i64 0, .slice (some ⟨b, 0, none⟩) 0 0, sv, v1]) ++ [v2] = A ++ (outC t cv ++ [Value.int .i64 0, .slice (some ⟨b, 0, none⟩) 0 0, sv, v1, v2]) := by simp
    rw [er4]
    have hrow2 : IntsAt g7 v2 (z.take n ++ ml) := rowF_ints (l := z.take n ++ ml) (by rw [List.map_append]; exact r5)
    refine ans_end (M := [Value.int .i64 0, .slice (some ⟨b, 0, none⟩) 0 0, sv, v1, v2]) (j := 89) (d := 4) (h0 := h) hAl m1 (SlAt.le callC_mono hk47 c1) hco hA' rfl rfl rfl (by simp) (SlAt.le blkC_mono (hl4.trans hk47) hB3) (iu.le (hl4.trans hk47)) (im.le (hl4.trans hk47)) hrow2 hck hfr (inArgs_len args P) ?_ (hle4.trans hk47) rfl rfl
    obtain ⟨q', hq'⟩ := hrun.answers (m := z.take n ++ ml) (fun i hi => by
      have hi' : i < n := by simp only [start, List.length_nil] at hi; omega
      show z.getD i 0 = _
      rw [List.getD_eq_getElem?_getD, List.getD_eq_getElem?_getD, List.getElem?_append_left (by rw [List.length_take]; omega), List.getElem?_take, if_pos hi'])
    exact ⟨q', hq'⟩
  · replace hc := cmp.symm.trans hc
    rw [cmp_eql, decide_eq_false_iff_not] at hc
    have hnc : n = z.length := by omega
    refine ans_end (M := [Value.int .i64 0, .slice (some ⟨b, 0, none⟩) 0 0, sv, v1]) (j := 88) (d := 3) (h0 := h) hAl m1 (SlAt.le callC_mono hk46 c1) hco hA' rfl rfl rfl (by simp) (SlAt.le blkC_mono (hl4.trans hk46) hB3) (iu.le (hl4.trans hk46)) (im.le (hl4.trans hk46)) hrow1 hck hfr (inArgs_len args P) ?_ (hle4.trans hk46) rfl rfl
    have : z.take n = z := by rw [hnc, List.take_length]
    rw [this]
    exact hrun.answers (m := z) (fun _ _ => rfl)
namespace runAnswers
theorem own : ownKnob Try.prog.godebug = none := by kernel_rfl
set_option maxRecDepth 100000 in
theorem laidOut : laidOutB Try.prog = true := by kernel_rfl
set_option maxRecDepth 100000 in
theorem contract (H : Type) (enc : TypeId × Value → H) (W : World) (base : Nat) (args : Array Value) (ds gs : List (DataW H)) (before : List MemPlace)
    (hval : ∀ (j : Nat) t v, Try.f8.params[j]? = some t → args[j]? = some v → Value.okWide Try.prog W .any base t v)
    (hW : DataW.Whole enc Try.prog Try.f8.params.toList Rows.runAnswersSpec.vars false W args.toList ds gs before) :
    Calls Try.prog 8 args W fun e W' => ∃ v, e = .returned v ∧ Rows.runAnswersSpec.post enc Try.prog Try.f8 false true false false W args v W' := by
  have hW' := hW
  obtain ⟨p, q, hA, hV, rfl, hfz, hnd⟩ := hW
  rw [Try.params8] at hA hval
  obtain ⟨v0, vs0, d0, ds0, p0, q0, hargs, rfl, rfl, h0, r0⟩ := trodAll_cons hA
  obtain ⟨v1, vs1, d1, ds1, p1, q1, rfl, rfl, rfl, h1, r1⟩ := trodAll_cons r0
  obtain ⟨v2, vs2, d2, ds2, p2, q2, rfl, rfl, rfl, h2, r2⟩ := trodAll_cons r1
  obtain ⟨rfl, rfl, rfl⟩ := trodAll_nil r2
  obtain rfl : args = #[v0, v1, v2] := by cases args; simp_all
  obtain ⟨cs0, rfl, -⟩ := okWide_struct Try.underlying24 (hval 0 24 v0 rfl rfl)
  obtain ⟨p0, p1, p2, vs, l, he0, g0, g1, g2, hs⟩ := rd_spec (Rd.of h0)
  obtain rfl : cs0 = ([Value.int .u8 p0, .int .u8 p1, .int .u8 p2, vs]).toArray := by rw [← he0]; simp [Value.cells]
  obtain ⟨cs1, rfl, -⟩ := okWide_struct Try.underlying27 (hval 1 27 v1 rfl rfl)
  obtain ⟨av, mv, nv, fuel, args, mem, ans, he1, ha, hm, hn⟩ := rd_input (Rd.of h1)
  obtain rfl : cs1 = ([av, mv, nv, Value.int .i64 fuel]).toArray := by rw [← he1]; simp [Value.cells]
  obtain ⟨a2, n2, c2, rfl⟩ := okWide_slice Try.underlying25 (hval 2 25 v2 rfl rfl)
  obtain ⟨kv, ml, he2, hkv, -⟩ := rd_ints64 (Rd.of h2)
  obtain rfl : Value.slice a2 n2 c2 = kv := by simpa [Value.cells] using he2
  refine (law_calls (f := 8) (args := [.agg ([Value.int .u8 p0, .int .u8 p1, .int .u8 p2, vs]).toArray, .agg ([av, mv, nv, Value.int .i64 fuel]).toArray, .slice a2 n2 c2]) (s8 hs g0 g1 g2 ha hm hn hkv)).mono ?_
  rintro e' W' ⟨rfl, bel⟩
  exact ⟨_, rfl, law_post laidOut hW' rfl (of_decide_eq_true (by kernel_rfl)) rfl Try.underlying4 rfl bel⟩
set_option maxRecDepth 100000 in
theorem lifted (os : Os) (started : os.Started) (H : Type) (enc : TypeId × Value → H) :
    ReturnsInHanded {} Try.checked os 8 .any (Rows.runAnswersSpec.pre6 enc Try.prog Try.f8 Rows.runAnswersRow.domain false) (Rows.runAnswersSpec.post enc Try.prog Try.f8 false true false false) := by
  refine returnsInHanded_of_change (C := Try.checked) own started (by kernel_rfl) Try.func8
    (ChangeSpec.witness6 (enc := enc) (C := Try.checked) false ⟨#[], #[.agg #[.int .u8 0, .int .u8 0, .int .u8 0, .slice none 0 0], .agg #[.slice none 0 0, .slice none 0 0, .slice none 0 0, .int .i64 0], .slice none 0 0], []⟩ 8 (by kernel_rfl) (by kernel_rfl) (by kernel_rfl) (by kernel_rfl)) ?_
  intro W base args ds gs before hval hW _ _
  exact contract H enc W base args ds gs before hval hW
set_option maxRecDepth 100000 in
theorem proved : Rows.RunAnswersSaid :=
  OpenClaim.holds_of_wide 8 Try.f8 rfl rfl rfl rfl rfl rfl rfl ⟨rfl, rfl, rfl, rfl, rfl⟩ rfl rfl rfl rfl rfl (by kernel_rfl) Try.func8 (by kernel_rfl)
    (of_decide_eq_true (by kernel_rfl)) (by unfold Func.isWrapper; first | (rw [if_pos (by decide +kernel)]; kernel_rfl) | (rw [if_neg (by decide +kernel)]; exact ⟨rfl, rfl⟩))
    (fun os started H enc _ => lifted os started H enc)
end runAnswers
/-- The row, under a short name, for the claim. -/
theorem runAnswersHolds : Rows.RunAnswersSaid := runAnswers.proved
#print axioms runAnswersHolds
end Go.Proofs.Ytodeffobplpcnaa
