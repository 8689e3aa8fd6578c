/-
  What the parts of a run do: fuel, a word, a call, an instruction, an end. Conditions: as each contract says.
-/
import Derived.Test.YtbbicdfipheaeaaDoorRnA
set_option linter.unusedVariables false
set_option linter.unusedSimpArgs false
namespace Go.Proofs.YtbbicdfipheaeaaDoor
open Go

abbrev bp (b : Nat) : Addr := ⟨b, 0, none⟩
abbrev pV (b : Nat) : Value := .pointer (some ⟨b, 0, none⟩)
theorem pV_fit (b : Nat) : Fits .ptr (pV b) := ⟨_, rfl⟩
theorem needI {G : List Value} {i j : Nat} {x : Int} {n : Nat} (e : gv G i = .int .i64 x) (ej : vlen (gv G j) = n) (h : inN n x) : needs G [(.cmp .geq (.var i) (.lit 0)), (.cmp .lss (.var i) (.len j))] := by
  obtain ⟨h1, h2⟩ := h
  simp only [needs, X.den, e, ej, vi_int, vb_bool, cmp_geq, cmp_lss, decide_eq_true_eq, and_true]
  exact ⟨h1, h2⟩
theorem needA {G : List Value} {i j k : Nat} {x y : Int} {n : Nat} (e : gv G i = .int .i64 x) (e' : gv G k = .int .i64 y) (ej : vlen (gv G j) = n) (h : inN n (x + y)) (hn : n ≤ 10000) : needs G [(.cmp .geq (.op .add .i64 (.var i) (.var k)) (.lit 0)), (.cmp .lss (.op .add .i64 (.var i) (.var k)) (.len j))] := by
  obtain ⟨h1, h2⟩ := h
  have : intOp .add .i64 x y = x + y := by simp only [intOp]; rw [wrap_i64 (by omega) (by omega)]
  simp only [needs, X.den, e, e', ej, vi_int, vb_bool, this, cmp_geq, cmp_lss, decide_eq_true_eq, and_true]
  exact ⟨h1, h2⟩
theorem addr_add {x y : Int} {n : Nat} (h : inN n (x + y)) (hn : n ≤ 10000) : intOp .add .i64 x y = x + y := by
  obtain ⟨h1, h2⟩ := h
  simp only [intOp]; rw [wrap_i64 (by omega) (by omega)]
theorem s81 {h : H} (op a b : Int) : CallsA Tryd.prog 81 (fun _ => [.int .u8 op, .int .i64 a, .int .i64 b]) [] h (Ret fun r h' => h' = h ∧ r = .tuple #[.int .i64 ((binM op a b).getD 0), .bool (binM op a b).isSome]) := by
  refine c81 (G := [.int .u8 op, .int .i64 a, .int .i64 b]) ⟨⟨_, rfl⟩, ⟨_, rfl⟩, ⟨_, rfl⟩, trivial⟩ ?_
  have cv : ∀ k : Int, ∀ c : Bool, vb ((X.cmp .eql (.var 0) (.lit k)).den [.int .u8 op, .int .i64 a, .int .i64 b]) = c → decide (op = k) = c := fun k c h => by
    simpa only [X.den, gv_zero, vi_int, vb_bool, cmp_eql] using h
  refine h_ite (fun c1 => ⟨rfl, rfl, ?_⟩) (fun c1 => h_ite (fun c2 => ⟨rfl, rfl, ?_⟩) (fun c2 => h_ite (fun c3 => ⟨rfl, rfl, ?_⟩) (fun c3 => h_ite (fun c4 => ⟨rfl, rfl, ?_⟩) (fun c4 => h_ite (fun c5 => ⟨rfl, rfl, ?_⟩) (fun c5 => h_ite (fun c6 => ?_) (fun c6 => ?_))))))
  · have := cv _ _ c1; rw [decide_eq_true_eq] at this; subst this; rfl
  · have := cv _ _ c2; rw [decide_eq_true_eq] at this; subst this; rfl
  · have := cv _ _ c3; rw [decide_eq_true_eq] at this; subst this; rfl
  · have := cv _ _ c4; rw [decide_eq_true_eq] at this; subst this; rfl
  · have := cv _ _ c5; rw [decide_eq_true_eq] at this; subst this; rfl
  · have := cv _ _ c6; rw [decide_eq_true_eq] at this; subst this
    refine h_ite (fun c => ⟨rfl, rfl, ?_⟩) (fun c => ⟨rfl, rfl, ?_⟩)
    · replace c : cmpOp .lss a b = true := c
      rw [cmp_lss, decide_eq_true_eq] at c
      simp [binM, c, SV.den, SV.denL, X.den]
    · replace c : cmpOp .lss a b = false := c
      rw [cmp_lss, decide_eq_false_iff_not] at c
      simp [binM, c, SV.den, SV.denL, X.den]
  · have d1 := cv _ _ c1; have d2 := cv _ _ c2; have d3 := cv _ _ c3; have d4 := cv _ _ c4; have d5 := cv _ _ c5; have d6 := cv _ _ c6
    rw [decide_eq_false_iff_not] at d1 d2 d3 d4 d5 d6
    have hb : binM op a b = if b = 0 then none else some (intOp .quo .i64 a b) := by simp [binM, d1, d2, d3, d4, d5, d6]
    refine h_ite (fun c => ⟨rfl, rfl, ?_⟩) (fun c => ⟨fun _ => ⟨?_, trivial⟩, rfl, rfl, ?_⟩)
    · replace c : cmpOp .eql b 0 = true := c
      rw [cmp_eql, decide_eq_true_eq] at c
      rw [hb, if_pos c]; rfl
    · replace c : cmpOp .eql b 0 = false := c
      rw [cmp_eql, decide_eq_false_iff_not] at c
      show cmpOp .neq b 0 = true
      rw [cmp_neq, decide_eq_true_eq]; exact c
    · replace c : cmpOp .eql b 0 = false := c
      rw [cmp_eql, decide_eq_false_iff_not] at c
      rw [hb, if_neg c]; rfl
section
variable {e : TypeId} {tl : List Value} {h0 h : H} {b : Nat} {pv cv mv : Value} {fP fC : List Nat} {s : Rs} {R : Int}
theorem s80 (M : Mc e tl h0 h b pv cv fP fC s) (hl : 0 ≤ s.left ∧ s.left ≤ 10000000) :
    CallsA Tryd.prog 80 (fun _ => [pV b]) [] h (Ret fun r h' => r = .bool (!decide (s.left = 0)) ∧ Mc e tl h0 h' b pv cv fP fC (if s.left = 0 then { s with how := 3 } else { s with left := s.left - 1 })) := by
  refine c80 (G := [pV b]) ⟨pV_fit b, trivial⟩ ⟨fun _ => ⟨rfl, trivial⟩, h_load [.int .i64 s.left] ⟨⟨_, rfl⟩, trivial⟩ (fun _ => ?_) (h_ite (fun hc => ⟨fun _ => ⟨rfl, trivial⟩, ?_⟩) (fun hc => ⟨fun _ => ⟨rfl, trivial⟩, ?_⟩))⟩
  · have := M.left_; rwa [show (67 : Nat) = 0 + 67 from rfl, ← add_add] at this
  · replace hc : cmpOp .eql s.left 0 = true := hc
    rw [cmp_eql, decide_eq_true_eq] at hc
    refine h_store ((bp b).add 0) [.int .i64 3] (by rw [show (0 : Nat) = 0 + 0 from rfl, ← add_add]; rfl) rfl (M.wr (by simp [outC])) ⟨rfl, ?_, ?_⟩
    · simp only [hc, decide_true]; rfl
    · rw [if_pos hc]; exact M.setHow 3
  · replace hc : cmpOp .eql s.left 0 = false := hc
    rw [cmp_eql, decide_eq_false_iff_not] at hc
    refine h_load [.int .i64 s.left] ⟨⟨_, rfl⟩, trivial⟩ (fun _ => ?_) ⟨fun _ => ⟨rfl, trivial⟩, h_store ((bp b).add 67) [.int .i64 (s.left - 1)] ?_ ?_ (M.wr (by simp [outC, M.m64]; omega)) ⟨rfl, ?_, ?_⟩⟩
    · have := M.left_; rwa [show (67 : Nat) = 0 + 67 from rfl, ← add_add] at this
    · rw [show (67 : Nat) = 0 + 67 from rfl, ← add_add]; rfl
    · show [Value.int .i64 (intOp .sub .i64 s.left 1)] = _
      simp only [intOp]; rw [wrap_i64 (by omega) (by omega)]
    · simp only [hc, decide_false]; rfl
    · rw [if_neg hc]; exact M.setLeft _
theorem s82 (n : Int) : CallsA Tryd.prog 82 (fun _ => [pV b, .int .i64 n]) [] h (Ret fun r h' => h' = h ∧ r = .pointer (some ((bp b).add (3 + wordI n)))) := by
  obtain ⟨w1, w2⟩ := word_val n
  refine c82 (G := [pV b, .int .i64 n]) ⟨pV_fit b, ⟨_, rfl⟩, trivial⟩ ⟨fun _ => ⟨rfl, trivial⟩, fun _ => ⟨?_, ?_, trivial⟩, rfl, rfl, ?_⟩
  · show cmpOp .geq (intOp .rem .u64 (IntKind.u64.wrap n) 64) 0 = true
    rw [w1]; exact ge0 _
  · show cmpOp .lss (intOp .rem .u64 (IntKind.u64.wrap n) 64) 64 = true
    rw [w1, cmp_lss, decide_eq_true_eq]; omega
  · show Value.pointer (some ((((bp b).add 0).add 3).add ((intOp .rem .u64 (IntKind.u64.wrap n) 64).toNat * 1))) = _
    rw [w1, Int.toNat_natCast, Nat.mul_one, add_add, add_add, Nat.zero_add]
theorem zeroI64 : (zeroCells Tryd.prog 2).getD [] = [.int .i64 0] := by kernel_rfl
theorem zeroCall : ((zeroCells Tryd.prog 123).getD []).length = 2 := by kernel_rfl
/-- A run of run.Do's: its state lies at b, its places at pv. -/
structure Dc (h0 h : H) (b : Nat) (pv : Value) (fP : List Nat) (R : Int) (s : Rs) : Prop where
  mc : ∃ cv mv fC, Mc 134 [pv, .int .i64 R, mv] h0 h b pv cv fP fC s ∧ IntsAt h0 mv s.more
theorem s83 (D : Dc h0 h b pv fP R s) {x : Ins} {v : Value} (hv : IntsAt h0 v x.args) (ha : ∀ a ∈ x.args, inN s.places.length a) (hal : x.args.length ≤ 1000) (hcl : s.calls.length ≤ 10000000) (hlf : 0 ≤ s.left) :
    CallsA Tryd.prog 83 (fun _ => [pV b, .agg (insC x v).toArray]) [] h (Ret fun r h' => r = .int .i64 (s.more.headD 0) ∧ Dc h0 h' b pv fP R { s with calls := s.calls ++ [(x.n, x.args.map (getP s))], more := s.more.tail }) := by
  obtain ⟨cv, mv, fC, M, hm⟩ := D.mc
  refine c83 (G := [pV b, .int .u8 x.kind, .int .u8 x.op, .int .i64 x.d, .int .i64 x.a, .int .i64 x.b, .int .i64 x.n, v]) ⟨pV_fit b, ⟨_, rfl⟩, ⟨_, rfl⟩, ⟨_, rfl⟩, ⟨_, rfl⟩, ⟨_, rfl⟩, ⟨_, rfl⟩, hv.fit, trivial⟩ ?_
  have hvl := hv.len
  have hpl := M.plen
  have rp : ∀ {h'}, Mc 134 [pv, .int .i64 R, mv] h0 h' b pv cv fP fC s → Reads h' ((bp b).add 68) [pv] := fun M' => M'.tail_ (i := 0) rfl
  refine h_loop (fun xs h' => ∃ (i : Nat) (u : Value) (f : List Nat), xs = [.int .i64 (i : Int), u] ∧ i ≤ x.args.length ∧ Mc 134 [pv, .int .i64 R, mv] h0 h' b pv cv fP fC s ∧ RowF h' 2 1 u (((x.args.take i).map (getP s)).map (.int .i64)) f ∧ Fresh h0 f ∧ ∀ c ∈ f, c ∉ b :: (fP ++ fC))
    (fun xs h' => x.args.length - (vi (gv xs 0)).toNat) ⟨0, .slice none 0 0, [], rfl, Nat.zero_le _, M, .inl ⟨rfl, rfl, rfl⟩, (fun c hc => by cases hc), (fun c hc => by cases hc)⟩ ?_
  rintro xs h1 J - ⟨i, u, f, rfl, hi, M1, hu, hf, hd⟩ hJ
  have huf := hu.row0.fit
  simp only [List.cons_append, List.nil_append]
  refine h_ite (fun hc => ?_) (fun hc => ?_)
  · replace hc : cmpOp .lss (i : Int) ((vlen v : Nat) : Int) = true := hc
    have n1 := hc
    rw [hvl, cmp_lss, decide_eq_true_eq] at hc
    have hil : i < x.args.length := by omega
    have hz : x.args[i]? = some x.args[i] := List.getElem?_eq_getElem hil
    have hzm : x.args[i] ∈ x.args := List.getElem_mem _
    generalize hze : x.args[i] = z at hz hzm
    have hzn := ha z hzm
    have hzr := (hv.le M1.kept.le_nil).read hz
    have r1 := rp M1
    refine ⟨fun _ => ⟨ge0 i, n1, trivial⟩, h_load [.int .i64 z] ⟨⟨_, rfl⟩, trivial⟩ (fun _ => hzr) ⟨fun _ => ⟨rfl, trivial⟩, h_load [pv] ⟨M.pfit, trivial⟩ (fun _ => r1) ⟨fun _ => needI (n := s.places.length) rfl hpl hzn, h_load [.int .i64 (getP s z)] ⟨⟨_, rfl⟩, trivial⟩ (fun _ => M1.place hzn) ⟨fun _ => r1, ?_⟩⟩⟩⟩
    simp only [List.cons_append, List.nil_append]
    refine ⟨[.int .i64 (getP s z)], 1, ⟨rfl, rfl⟩, app_rowF hu rfl (by rw [zeroI64]; rfl) ?_ ?_⟩
    · have e1 := hu.row0.len
      simp only [List.length_map, List.length_take, Nat.mul_one] at e1
      show (vlen u + 1) * 8 ≤ _
      omega
    intro u' h2 f' k1 k2 k3 k4
    have M2 : Mc 134 [pv, .int .i64 R, mv] h0 h2 b pv cv fP fC s := by
      have ag : ∀ {g : List Nat}, (∀ c ∈ g, c ∈ b :: (fP ++ fC)) → Live h1 g → Agree h1 h2 g := fun hg hl => k3.agree hl fun c hc hc' => hd c hc' (hg c hc)
      refine ⟨?_, M1.m64, M1.pl.agree (ag (fun c hc => by simp [hc]) M1.pl.live), M1.cl.agree callF_good (ag (fun c hc => by simp [hc]) (M1.cl.live callF_good)), M1.nd, M1.fr, M1.kept.trans_nil k3 hf⟩
      rw [k3 b (fun hb => hd b hb (by simp)) (by rw [M1.obj]; rfl)]; exact M1.obj
    have hf' : Fresh h0 f' := by
      rcases k4 with rfl | ⟨c, rfl, hc⟩
      · exact hf
      · intro q hq; rw [List.mem_singleton] at hq; subst hq; exact H.le_none M1.kept.le_nil hc
    have hd' : ∀ c ∈ f', c ∉ b :: (fP ++ fC) := by
      rcases k4 with rfl | ⟨c, rfl, hc⟩
      · exact hd
      · intro q hq hq'
        rw [List.mem_singleton] at hq; subst hq
        rcases List.mem_cons.1 hq' with rfl | hq'
        · rw [M1.obj] at hc; cases hc
        · rcases List.mem_append.1 hq' with hq' | hq'
          · have := M1.pl.live q hq'; rw [hc] at this; cases this
          · have := M1.cl.live callF_good q hq'; rw [hc] at this; cases this
    refine ⟨fun _ => rp M2, again_of (xs := [.int .i64 ((i + 1 : Nat) : Int), u']) (J := J) ?_ rfl (hJ _ _ ⟨i + 1, u', f', rfl, by omega, M2, ?_, hf', hd'⟩ ?_)⟩
    · exact congrArg (fun z => [Value.int .i64 z, u']) (int_add_one (n := x.args.length) (by omega) (by omega))
    · rw [List.take_succ_eq_append_getElem hil, hze]
      simpa using k1
    · simp only [gv_zero, vi_int]; omega
  · replace hc : cmpOp .lss (i : Int) ((vlen v : Nat) : Int) = false := hc
    rw [hvl, cmp_lss, decide_eq_false_iff_not] at hc
    have hie : i = x.args.length := by omega
    rw [hie, List.take_length] at hu
    have rc : Reads h1 (((bp b).add 0).add 2) [cv] := by rw [add_add]; exact M1.calls_
    have hcvf : Fits .sl cv := by obtain ⟨L, fr, _, _, h4, _⟩ := M1.cl; exact h4.row0.fit
    refine ⟨fun _ => ⟨rfl, trivial⟩, h_load [cv] ⟨hcvf, trivial⟩ (fun _ => rc) ⟨fun _ => rc, [.int .i64 x.n, u], 1, ⟨rfl, rfl⟩, ?_⟩⟩
    refine M1.addCall (l := x.args.map (getP s)) hu hf hd (by omega) zeroCall fun cv' h2 fC' k => ?_
    obtain ⟨k1, M3⟩ := k cv' rfl
    refine ⟨fun _ => ⟨rfl, trivial⟩, h_store ((bp b).add 2) [cv'] (by rw [show (2 : Nat) = 0 + 2 from rfl, ← add_add]; rfl) rfl k1 ?_⟩
    generalize h2.sets ((bp b).add 2) [cv'] = h3 at M3 ⊢
    have hml := hm.len
    have rm : Reads h3 ((bp b).add 70) [mv] := M3.tail_ (i := 2) rfl
    refine ⟨fun _ => ⟨rfl, trivial⟩, h_load [mv] ⟨hm.fit, trivial⟩ (fun _ => rm) (h_ite (fun hc2 => ?_) (fun hc2 => ?_))⟩
    · replace hc2 : cmpOp .gtr ((vlen mv : Nat) : Int) 0 = true := hc2
      have n2 : cmpOp .lss 0 ((vlen mv : Nat) : Int) = true := by rw [cmp_lss]; rw [cmp_gtr] at hc2; exact hc2
      rw [hml, cmp_gtr, decide_eq_true_eq] at hc2
      obtain ⟨q, ql, hq⟩ : ∃ q ql, s.more = q :: ql := by
        cases e : s.more with
        | nil => rw [e] at hc2; simp at hc2
        | cons q ql => exact ⟨q, ql, rfl⟩
      have hqr := (hm.le M3.kept.le_nil).read (i := 0) (x := q) (by rw [hq]; rfl)
      have n3 : cmpOp .leq 1 ((vlen mv : Nat) : Int) = true := by rw [hml, cmp_leq, decide_eq_true_eq]; omega
      refine ⟨fun _ => ⟨rfl, trivial⟩, h_load [mv] ⟨hm.fit, trivial⟩ (fun _ => rm) ⟨fun _ => ⟨rfl, n2, trivial⟩, h_load [.int .i64 q] ⟨⟨_, rfl⟩, trivial⟩ (fun _ => hqr) ⟨fun _ => ⟨rfl, trivial⟩, h_load [mv] ⟨hm.fit, trivial⟩ (fun _ => rm) ⟨fun _ => ⟨rfl, n3, trivial⟩, ?_⟩⟩⟩⟩
      rintro w hw
      replace hw : w = sliceV mv 1 (vlen mv) 1 := hw
      subst hw
      simp only [List.cons_append, List.nil_append]
      have hm' : IntsAt h0 (sliceV mv 1 (vlen mv) 1) s.more.tail := by
        have := hm.slice (lo := 1) (hi := s.more.length) (by omega) (Nat.le_refl _)
        rw [hml]
        rw [hq] at this ⊢
        simpa [List.take_of_length_le] using this
      refine ⟨fun _ => rm, fun _ => ⟨rfl, trivial⟩, h_store ((bp b).add 70) [sliceV mv 1 (vlen mv) 1] rfl rfl (M3.wr (by rw [List.length_append, outC_len M3.m64]; simp)) ?_⟩
      refine ⟨rfl, by rw [hq]; rfl, ⟨cv', sliceV mv 1 (vlen mv) 1, fC', ?_, hm'⟩⟩
      refine M3.setObj (s' := { s with calls := s.calls ++ [(x.n, x.args.map (getP s))], more := s.more.tail }) (tl' := [pv, .int .i64 R, sliceV mv 1 (vlen mv) 1]) (by rw [List.length_append, outC_len M3.m64]; simp) ?_ M3.m64 rfl rfl
      rw [List.set_append_right _ _ (by rw [outC_len M3.m64]; omega), outC_len M3.m64]; rfl
    · replace hc2 : cmpOp .gtr ((vlen mv : Nat) : Int) 0 = false := hc2
      rw [hml, cmp_gtr, decide_eq_false_iff_not] at hc2
      have hq : s.more = [] := List.eq_nil_of_length_eq_zero (by omega)
      refine ⟨rfl, by rw [hq]; rfl, ⟨cv', mv, fC', ?_, by rw [hq] at hm ⊢; exact hm⟩⟩
      exact ⟨M3.obj, M3.m64, M3.pl, M3.cl, M3.nd, M3.fr, M3.kept⟩
theorem Mc.how_left (M : Mc e tl h0 h b pv cv fP fC s) (n m : Int) : True := trivial
theorem Dc.of_left {h' : H} {t : Rs} {cv mv : Value} {fC : List Nat} (M : Mc 134 [pv, .int .i64 R, mv] h0 h' b pv cv fP fC t) (hm : IntsAt h0 mv t.more) : Dc h0 h' b pv fP R t := ⟨cv, mv, fC, M, hm⟩
theorem s77 (D : Dc h0 h b pv fP R s) {x : Ins} {v : Value} {n : Nat} (hv : IntsAt h0 v x.args) (hn : s.places.length = n) (hp : PlOk R n x) (hn2 : n ≤ 1000) (hR : 0 ≤ R ∧ R ≤ 1000) (hcl : s.calls.length ≤ 10000000) (hlf : 0 ≤ s.left ∧ s.left ≤ 10000000) :
    CallsA Tryd.prog 77 (fun _ => [pV b, .agg (insC x v).toArray]) [] h (Ret fun r h' => r = .bool (stepM R x s).2 ∧ Dc h0 h' b pv fP R (stepM R x s).1) := by
  subst hn
  obtain ⟨cv, mv, fC, M, hm⟩ := D.mc
  refine c77 (G := [pV b, .int .u8 x.kind, .int .u8 x.op, .int .i64 x.d, .int .i64 x.a, .int .i64 x.b, .int .i64 x.n, v]) ⟨pV_fit b, ⟨_, rfl⟩, ⟨_, rfl⟩, ⟨_, rfl⟩, ⟨_, rfl⟩, ⟨_, rfl⟩, ⟨_, rfl⟩, hv.fit, trivial⟩ ?_
  have hpl := M.plen
  have rp : Reads h ((bp b).add 68) [pv] := M.tail_ (i := 0) rfl
  have rR : Reads h ((bp b).add 69) [.int .i64 R] := M.tail_ (i := 1) rfl
  have cK : ∀ {G : List Value} {k : Int} {c : Bool}, gv G 1 = .int .u8 x.kind → vb ((X.cmp .eql (.var 1) (.lit k)).den G) = c → decide (x.kind = k) = c := fun e h => by
    simpa only [X.den, e, vi_int, vb_bool, cmp_eql] using h
  refine ⟨fun _ => ⟨rfl, trivial⟩, h_load [pv] ⟨M.pfit, trivial⟩ (fun _ => rp) ?_⟩
  simp only [List.cons_append, List.nil_append]
  refine h_ite (fun c2 => ?_) (fun c2 => ?_)
  · have k2 := cK rfl c2; rw [decide_eq_true_eq] at k2
    obtain ⟨hd, ha⟩ := hp.k2 k2
    obtain ⟨w1, M1⟩ := M.setPlace hd (getP s x.a)
    refine ⟨fun _ => needI rfl hpl ha, h_load [.int .i64 (getP s x.a)] ⟨⟨_, rfl⟩, trivial⟩ (fun _ => M.place ha) ⟨fun _ => needI rfl hpl hd, h_store _ [.int .i64 (getP s x.a)] rfl rfl w1 ⟨rfl, ?_, ?_⟩⟩⟩
    · rw [stepM_2 k2]; rfl
    · rw [stepM_2 k2]; exact .of_left M1 hm
  have k2 := cK rfl c2; rw [decide_eq_false_iff_not] at k2
  refine h_ite (fun c7 => ?_) (fun c7 => ?_)
  · have k7 := cK rfl c7; rw [decide_eq_true_eq] at k7
    obtain ⟨hd, ha⟩ := hp.k7 k7
    obtain ⟨w1, M1⟩ := M.setPlace hd (getP s x.a)
    refine ⟨fun _ => ⟨rfl, trivial⟩, h_load [.int .i64 R] ⟨⟨_, rfl⟩, trivial⟩ (fun _ => rR) ⟨fun _ => needI rfl hpl ha, h_load [.int .i64 (getP s x.a)] ⟨⟨_, rfl⟩, trivial⟩ (fun _ => M.place ha) ⟨fun _ => needA rfl rfl hpl hd (by omega), h_store _ [.int .i64 (getP s x.a)] ?_ rfl w1 ⟨rfl, ?_, ?_⟩⟩⟩⟩
    · show (vaddr pv).add ((intOp .add .i64 R x.d).toNat * 1) = _
      rw [addr_add hd (by omega)]
    · rw [stepM_7 k7]; rfl
    · rw [stepM_7 k7]; exact .of_left M1 hm
  have k7 := cK rfl c7; rw [decide_eq_false_iff_not] at k7
  refine h_ite (fun c8 => ?_) (fun c8 => ?_)
  · have k8 := cK rfl c8; rw [decide_eq_true_eq] at k8
    obtain ⟨hd, ha⟩ := hp.k8 k8
    obtain ⟨w1, M1⟩ := M.setPlace hd (getP s (R + x.a))
    refine ⟨fun _ => ⟨rfl, trivial⟩, h_load [.int .i64 R] ⟨⟨_, rfl⟩, trivial⟩ (fun _ => rR) ⟨fun _ => needA rfl rfl hpl ha (by omega), h_load [.int .i64 (getP s (R + x.a))] ⟨⟨_, rfl⟩, trivial⟩ (fun _ => ?_) ⟨fun _ => needI rfl hpl hd, h_store _ [.int .i64 (getP s (R + x.a))] rfl rfl w1 ⟨rfl, ?_, ?_⟩⟩⟩⟩
    · show Reads h ((vaddr pv).add ((intOp .add .i64 R x.a).toNat * 1)) _
      rw [addr_add ha (by omega)]; exact M.place ha
    · rw [stepM_8 k8]; rfl
    · rw [stepM_8 k8]; exact .of_left M1 hm
  have k8 := cK rfl c8; rw [decide_eq_false_iff_not] at k8
  refine h_call0 (s80 M hlf) ?_
  rintro _ h1 ⟨rfl, M1⟩
  refine ⟨[.bool (!decide (s.left = 0))], ⟨⟨_, rfl⟩, trivial⟩, rfl, h_ite (fun hc => ?_) (fun hc => ?_)⟩
  · replace hc : (!(!decide (s.left = 0))) = true := hc
    have h0' : s.left = 0 := by simpa using hc
    rw [if_pos h0'] at M1
    refine ⟨rfl, ?_, ?_⟩
    · rw [stepM_0 ⟨k2, k7, k8⟩ h0']; rfl
    · rw [stepM_0 ⟨k2, k7, k8⟩ h0']; exact .of_left M1 hm
  replace hc : (!(!decide (s.left = 0))) = false := hc
  have hL : s.left ≠ 0 := by simpa using hc
  rw [if_neg hL] at M1
  simp only [List.cons_append, List.nil_append]
  have hst : ∀ k : Int, x.kind = k → k ≠ 2 → k ≠ 7 → k ≠ 8 → True := fun _ _ _ _ _ => trivial
  refine h_ite (fun c1 => ?_) (fun c1 => ?_)
  · have k1 := cK rfl c1; rw [decide_eq_true_eq] at k1
    have hd := hp.k1 k1
    obtain ⟨w1, M2⟩ := M1.setPlace hd x.n
    refine ⟨fun _ => needI rfl hpl hd, h_store _ [.int .i64 x.n] rfl rfl w1 ⟨rfl, ?_, ?_⟩⟩
    · rw [stepM_1 k1 hL]; rfl
    · rw [stepM_1 k1 hL]; exact .of_left M2 hm
  have k1 := cK rfl c1; rw [decide_eq_false_iff_not] at k1
  refine h_ite (fun c3 => ?_) (fun c3 => ?_)
  · have k3 := cK rfl c3; rw [decide_eq_true_eq] at k3
    obtain ⟨hd, ha, hb, -⟩ := hp.k3 k3
    have ga : ∀ i, getP { s with left := s.left - 1 } i = getP s i := fun _ => rfl
    refine ⟨fun _ => needI rfl hpl ha, h_load [.int .i64 (getP s x.a)] ⟨⟨_, rfl⟩, trivial⟩ (fun _ => M1.place ha) ⟨fun _ => needI rfl hpl hb, h_load [.int .i64 (getP s x.b)] ⟨⟨_, rfl⟩, trivial⟩ (fun _ => M1.place hb) (h_call0 (s81 (h := h1) x.op (getP s x.a) (getP s x.b)) ?_)⟩⟩
    rintro _ _ ⟨rfl, rfl⟩
    refine ⟨[.int .i64 ((binM x.op (getP s x.a) (getP s x.b)).getD 0), .bool (binM x.op (getP s x.a) (getP s x.b)).isSome], ⟨⟨_, rfl⟩, ⟨_, rfl⟩, trivial⟩, rfl, ?_⟩
    simp only [List.cons_append, List.nil_append]
    rw [stepM_3 k3 hL]
    cases hb2 : binM x.op (getP s x.a) (getP s x.b) with
    | none =>
      refine iteT rfl ⟨fun _ => ⟨rfl, trivial⟩, h_store ((bp b).add 0) [.int .i64 2] (by rw [show (0 : Nat) = 0 + 0 from rfl, ← add_add]; rfl) rfl (M1.wr (by simp [outC])) ⟨rfl, rfl, ?_⟩⟩
      exact .of_left (M1.setHow 2) hm
    | some q =>
      obtain ⟨w1, M2⟩ := M1.setPlace hd q
      exact iteF rfl ⟨fun _ => needI rfl hpl hd, h_store _ [.int .i64 q] rfl rfl w1 ⟨rfl, rfl, .of_left M2 hm⟩⟩
  have k3 := cK rfl c3; rw [decide_eq_false_iff_not] at k3
  refine h_ite (fun c4 => ?_) (fun c4 => ?_)
  · have k4 := cK rfl c4; rw [decide_eq_true_eq] at k4
    obtain ⟨hd, ha⟩ := hp.k4 k4
    have hw := (word_val (getP s x.a)).2
    refine ⟨fun _ => needI rfl hpl ha, h_load [.int .i64 (getP s x.a)] ⟨⟨_, rfl⟩, trivial⟩ (fun _ => M1.place ha) (h_call0 (s82 (h := h1) (b := b) (getP s x.a)) ?_)⟩
    rintro _ _ ⟨rfl, rfl⟩
    refine ⟨[.pointer (some ((bp b).add (3 + wordI (getP s x.a))))], ⟨⟨_, rfl⟩, trivial⟩, rfl, ⟨fun _ => ⟨rfl, trivial⟩, h_load [.int .i64 (s.mem.getD (wordI (getP s x.a)) 0)] ⟨⟨_, rfl⟩, trivial⟩ (fun _ => M1.mem_ hw) ?_⟩⟩
    obtain ⟨w1, M2⟩ := M1.setPlace hd (s.mem.getD (wordI (getP s x.a)) 0)
    refine ⟨fun _ => needI rfl hpl hd, h_store _ [.int .i64 (s.mem.getD (wordI (getP s x.a)) 0)] rfl rfl w1 ⟨rfl, ?_, ?_⟩⟩
    · rw [stepM_4 k4 hL]; rfl
    · rw [stepM_4 k4 hL]; exact .of_left M2 hm
  have k4 := cK rfl c4; rw [decide_eq_false_iff_not] at k4
  refine h_ite (fun c5 => ?_) (fun c5 => ?_)
  · have k5 := cK rfl c5; rw [decide_eq_true_eq] at k5
    obtain ⟨ha, hb⟩ := hp.k5 k5
    have hw := (word_val (getP s x.a)).2
    refine ⟨fun _ => needI rfl hpl ha, h_load [.int .i64 (getP s x.a)] ⟨⟨_, rfl⟩, trivial⟩ (fun _ => M1.place ha) ⟨fun _ => needI rfl hpl hb, h_load [.int .i64 (getP s x.b)] ⟨⟨_, rfl⟩, trivial⟩ (fun _ => M1.place hb) (h_call0 (s82 (h := h1) (b := b) (getP s x.a)) ?_)⟩⟩
    rintro _ _ ⟨rfl, rfl⟩
    refine ⟨[.pointer (some ((bp b).add (3 + wordI (getP s x.a))))], ⟨⟨_, rfl⟩, trivial⟩, rfl, ⟨fun _ => M1.place hb, fun _ => ⟨rfl, trivial⟩, h_store ((bp b).add (3 + wordI (getP s x.a))) [.int .i64 (getP s x.b)] rfl rfl (M1.wr ?_) ⟨rfl, ?_, ?_⟩⟩⟩
    · rw [List.length_append, outC_len M1.m64]; omega
    · rw [stepM_5 k5 hL]; rfl
    · rw [stepM_5 k5 hL]; exact .of_left (M1.setMem hw _) hm
  have k5 := cK rfl c5; rw [decide_eq_false_iff_not] at k5
  refine h_ite (fun c6 => ?_) (fun c6 => ⟨rfl, ?_, ?_⟩)
  · have k6 := cK rfl c6; rw [decide_eq_true_eq] at k6
    obtain ⟨hd, ha⟩ := hp.k6 k6
    refine h_call0 (s83 (s := { s with left := s.left - 1 }) (.of_left M1 hm) (x := x) hv ha hp.al hcl (by show 0 ≤ s.left - 1; omega)) ?_
    rintro _ h2 ⟨rfl, D2⟩
    obtain ⟨cv2, mv2, fC2, M2, hm2⟩ := D2.mc
    obtain ⟨w1, M3⟩ := M2.setPlace hd (s.more.headD 0)
    refine ⟨[.int .i64 (s.more.headD 0)], ⟨⟨_, rfl⟩, trivial⟩, rfl, ⟨fun _ => needI rfl hpl hd, h_store _ [.int .i64 (s.more.headD 0)] rfl rfl w1 ⟨rfl, ?_, ?_⟩⟩⟩
    · rw [stepM_6 k6 hL]; rfl
    · rw [stepM_6 k6 hL]; exact .of_left M3 hm2
  · have k6 := cK rfl c6; rw [decide_eq_false_iff_not] at k6
    rw [stepM_n ⟨k2, k7, k8⟩ k1 k3 k4 k5 k6 hL]; rfl
  · have k6 := cK rfl c6; rw [decide_eq_false_iff_not] at k6
    rw [stepM_n ⟨k2, k7, k8⟩ k1 k3 k4 k5 k6 hL]
    exact .of_left M1 hm
end
end Go.Proofs.YtbbicdfipheaeaaDoor
