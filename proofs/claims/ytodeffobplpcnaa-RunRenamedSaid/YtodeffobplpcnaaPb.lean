/-
  The document's run: Play. Conditions: as each contract says.
-/
import Derived.Test.YtodeffobplpcnaaPa
set_option linter.unusedVariables false
set_option linter.unusedSimpArgs false
namespace Go.Proofs.Ytodeffobplpcnaa
open Go

theorem binM_none {op a c : Int} (ho : 1 ≤ op ∧ op ≤ 7) : binM op a c = none ↔ op = 7 ∧ c = 0 := by
  unfold binM; grind (splits := 60)
def Out.play2 : Out → Out
  | .mk _ _ _ _ (.loop _ _ _ (.ite _ _ (.alloc _ _ _ (.store _ _ (.loop _ _ _ (.ite _ _ k)))))) => k
  | _ => .fail
section
variable {h0 h : H} {b : Nat} {pv : Value} {fP : List Nat} {R S first : Nat} {bv av mv nv : Value} {bs : List Blk} {args mem ans : List Int} {fuel : Int}
theorem play_loop {Q : Value → List (List Value) → H → Prop} {g2 g3 g4 g5 g7 g9 g11 : Value} {s0 : Rs} {cv0 : Value} {fC0 : List Nat} (hb : BlksAt h0 bv bs) (hnv : IntsAt h0 nv ans) (hok : ∀ x ∈ bs, BlOk R ((R + S : Nat) : Int) bs.length x) (hb1 : 1 ≤ bs.length) (hb16 : bs.length ≤ 1000) (hn : R + S ≤ 1000)
    (M0 : Mc 37 [] h0 h b pv cv0 fP fC0 s0) (g0 : Good (R + S) 2000000 s0) (hans : s0.more = ans) (hQ : ∀ r h' t, Runs bs R 0 0 s0 t → KeptH h0 h' [] → OutR h0 h' r t → Q r [] h') :
    holds Try.prog Q (Out.play2 t20) [bv, .int .i64 (R : Int), g2, g3, g4, g5, nv, g7, pv, g9, pV b, g11] [] h := by
  have hbl := hb.len
  have hnl := hnv.len
  refine h_loop (fun xs h' => ∃ (k ak c : Nat) (s : Rs) (x : Blk), xs = [.int .i64 (k : Int), .int .i64 (ak : Int), .int .i64 (c : Int)] ∧ (∃ cv fC, Mc 37 [] h0 h' b pv cv fP fC s) ∧ Good (R + S) 2000000 s ∧
      bs[c]? = some x ∧ k ≤ x.ins.length ∧ s.more = ans.drop ak ∧ (ak : Int) + s.left ≤ 2000000 ∧ ∀ f, Runs bs R c k s f → Runs bs R 0 0 s0 f)
    (fun xs h' => leftOf b h' * 2000 + (2000 - (vi (gv xs 0)).toNat)) ⟨0, 0, 0, s0, bs[0], rfl, ⟨_, _, M0⟩, g0, List.getElem?_eq_getElem (by omega), Nat.zero_le _, hans, by have := g0.lf; omega, fun f hf => hf⟩ ?_
  rintro xs h1 J - ⟨k, ak, c, s, x, rfl, ⟨cv1, fC1, M1⟩, g1, hx, hk, hmore, hak, hrun⟩ hJ
  simp only [List.cons_append, List.nil_append]
  obtain ⟨hcb, -⟩ := List.getElem?_eq_some_iff.1 hx
  have hxm : x ∈ bs := List.mem_of_getElem? hx
  have hB := hok x hxm
  have hBl := hB.len
  have hlf := g1.lf
  have hplen := g1.pl
  obtain ⟨_, ⟨w, rfl, hw⟩, hr⟩ := hb.get c x hx
  have hr1 : Reads h1 (((vaddr bv).add (c * 5)).add 0) [w] := (hr.le M1.kept.le_nil).sub fun j z hz => by obtain ⟨rfl, rfl⟩ := get_one hz; rfl
  have hrE : Reads h1 (((vaddr bv).add (c * 5)).add 1) (endC x.en) := (hr.le M1.kept.le_nil).sub fun j z hz => by rw [Nat.add_comm]; simpa using hz
  have n1 : cmpOp .lss (c : Int) ((vlen bv : Nat) : Int) = true := by rw [hbl]; exact ltN hcb
  have hpl := M1.plen
  rw [hplen] at hpl
  have hLn : ∀ {h' : H} {s' : Rs}, (∃ cv fC, Mc 37 [] h0 h' b pv cv fP fC s') → leftOf b h' = s'.left.toNat := fun ⟨_, _, M⟩ => M.leftOf
  have l1 : leftOf b h1 = s.left.toNat := M1.leftOf
  have rL : Reads h1 ((bp b).add 67) [.int .i64 s.left] := M1.left_
  have eL : intOp .sub .i64 s.left 1 = s.left - 1 := by simp only [intOp]; rw [wrap_i64 (by omega) (by omega)]
  have starve : ∀ {G : List Value} {h' : H} {l : List SV} {t : Rs} {cv : Value} {fC : List Nat}, gv G 10 = pV b → Mc 37 [] h0 h' b pv cv fP fC t → l = Sh.svs G.length outSh → (∀ f, f = t → Runs bs R 0 0 s0 f) →
      holds Try.prog Q (.load (.tt true) (.var 10) outSh (.done (.agg l) [])) G [J] h' := fun {G h' l t cv fC} e10 M hl hr => by
    refine h_load (outC t cv) (outC_fit M.m64 M.out) (fun _ => ?_) (done_out (outC_fit M.m64 M.out) hl (hQ _ h' t (hr t rfl) M.kept M.outR))
    show Reads h' (vaddr (gv G 10)) _
    rw [e10]; exact M.outs
  refine ⟨fun _ => ⟨ge0 c, n1, trivial⟩, h_load [w] ⟨hw.fit, trivial⟩ (fun _ => hr1) (h_ite (fun hc => ?_) (fun hc => ?_))⟩
  · replace hc : cmpOp .lss (k : Int) ((vlen w : Nat) : Int) = true := hc
    have n2 := hc
    rw [hw.len, cmp_lss, decide_eq_true_eq] at hc
    have hkl : k < x.ins.length := by omega
    have hy : x.ins[k]? = some x.ins[k] := List.getElem?_eq_getElem hkl
    have hym : x.ins[k] ∈ x.ins := List.getElem_mem _
    generalize x.ins[k] = y at hy hym
    have hp := hB.ins y hym
    obtain ⟨_, ⟨u, rfl, hu⟩, hr2⟩ := hw.get k y hy
    have fin : ∀ {G : List Value} {h' : H} {s' : Rs}, gv G 12 = .int .i64 (k : Int) → gv G 13 = .int .i64 (ak : Int) → gv G 14 = .int .i64 (c : Int) → stepM R y s = (s', true) → (∃ cv fC, Mc 37 [] h0 h' b pv cv fP fC s') → s'.more = s.more →
        holds Try.prog Q (.again 0 [(.int .i64 (.op .add .i64 (.var 12) (.lit 1))), (.int .i64 (.var 13)), (.int .i64 (.var 14))]) G [J] h' := fun {G h' s'} e12 e13 e14 hst hM hm => by
      have hg := stepM_good (R := R) (x := y) g1
      rw [hst] at hg
      have hle : s'.left ≤ s.left := by have := stepM_left (R := R) (x := y) (s := s); rw [hst] at this; exact this
      refine again_of (xs := [.int .i64 ((k + 1 : Nat) : Int), .int .i64 (ak : Int), .int .i64 (c : Int)]) (J := J) ?_ rfl (hJ _ _ ⟨k + 1, ak, c, s', x, rfl, hM, hg, hx, by omega, by rw [hm]; exact hmore, by omega, fun f hf => hrun f (.step hx hy hst hf)⟩ ?_)
      · simp only [SV.denL, SV.den, X.den, e12, e13, e14, vi_int]
        rw [int_add_one (n := x.ins.length) hkl (by omega)]
      · rw [hLn hM, l1]; simp only [gv_zero, vi_int, Int.toNat_natCast]
        have : s'.left.toNat ≤ s.left.toNat := by omega
        omega
    refine ⟨fun _ => ⟨ge0 c, n1, trivial⟩, h_load [w] ⟨hw.fit, trivial⟩ (fun _ => hr1) ⟨fun _ => ⟨ge0 k, n2, trivial⟩, h_load (insC y u) (insFit y u hu.fit) (fun _ => hr2.le M1.kept.le_nil) ?_⟩⟩
    simp only [List.cons_append, List.nil_append, insC]
    have cK : ∀ {G : List Value} {q : Int} {d : Bool}, gv G 17 = .int .u8 y.kind → vb ((X.cmp .eql (.var 17) (.lit q)).den G) = d → decide (y.kind = q) = d := fun e h => by
      simpa only [X.den, e, vi_int, vb_bool, cmp_eql] using h
    have inP : ∀ {i : Int}, inN ((R + S : Nat) : Int) i → inN (s.places.length : Nat) i := fun h => by rw [hplen]; exact h
    refine h_ite (fun c2 => ?_) (fun c2 => ?_)
    · have k2 := cK rfl c2; rw [decide_eq_true_eq] at k2
      obtain ⟨hd, ha⟩ := hp.k2 k2
      obtain ⟨w1, M2⟩ := M1.setPlace (inP hd) (getP s y.a)
      exact ⟨fun _ => needI rfl hpl ha, h_load [.int .i64 (getP s y.a)] ⟨⟨_, rfl⟩, trivial⟩ (fun _ => M1.place (inP ha)) ⟨fun _ => needI rfl hpl hd, h_store _ [.int .i64 (getP s y.a)] rfl rfl w1 (fin rfl rfl rfl (stepM_2 k2) ⟨_, _, M2⟩ rfl)⟩⟩
    have k2 := cK rfl c2; rw [decide_eq_false_iff_not] at k2
    refine h_ite (fun c7 => ?_) (fun c7 => ?_)
    · have k7 := cK rfl c7; rw [decide_eq_true_eq] at k7
      obtain ⟨hd, ha⟩ := hp.k7 k7
      obtain ⟨w1, M2⟩ := M1.setPlace (inP hd) (getP s y.a)
      refine ⟨fun _ => needI rfl hpl ha, h_load [.int .i64 (getP s y.a)] ⟨⟨_, rfl⟩, trivial⟩ (fun _ => M1.place (inP ha)) ⟨fun _ => needA rfl rfl hpl hd (by omega), h_store _ [.int .i64 (getP s y.a)] ?_ rfl w1 (fin rfl rfl rfl (stepM_7 k7) ⟨_, _, M2⟩ rfl)⟩⟩
      show (vaddr pv).add ((intOp .add .i64 (R : Int) y.d).toNat * 1) = _
      rw [addr_add hd (by omega)]
    have k7 := cK rfl c7; rw [decide_eq_false_iff_not] at k7
    refine h_ite (fun c8 => ?_) (fun c8 => ?_)
    · have k8 := cK rfl c8; rw [decide_eq_true_eq] at k8
      obtain ⟨hd, ha⟩ := hp.k8 k8
      obtain ⟨w1, M2⟩ := M1.setPlace (inP hd) (getP s (R + y.a))
      refine ⟨fun _ => needA rfl rfl hpl ha (by omega), h_load [.int .i64 (getP s (R + y.a))] ⟨⟨_, rfl⟩, trivial⟩ (fun _ => ?_) ⟨fun _ => needI rfl hpl hd, h_store _ [.int .i64 (getP s (R + y.a))] rfl rfl w1 (fin rfl rfl rfl (stepM_8 k8) ⟨_, _, M2⟩ rfl)⟩⟩
      show Reads h1 ((vaddr pv).add ((intOp .add .i64 (R : Int) y.a).toNat * 1)) _
      rw [addr_add ha (by omega)]; exact M1.place (inP ha)
    have k8 := cK rfl c8; rw [decide_eq_false_iff_not] at k8
    refine h_load [.int .i64 s.left] ⟨⟨_, rfl⟩, trivial⟩ (fun _ => rL) ?_
    refine h_ite (fun hz => ?_) (fun hz => ?_)
    · replace hz : cmpOp .eql s.left 0 = true := hz
      rw [cmp_eql, decide_eq_true_eq] at hz
      refine h_store ((bp b).add 0) [.int .i64 3] rfl rfl (M1.wr (by simp [outC])) ?_
      exact starve rfl (M1.setHow 3) rfl fun f hf => by subst hf; exact hrun _ (.stop hx hy (stepM_0 ⟨k2, k7, k8⟩ hz))
    replace hz : cmpOp .eql s.left 0 = false := hz
    rw [cmp_eql, decide_eq_false_iff_not] at hz
    refine h_load [.int .i64 s.left] ⟨⟨_, rfl⟩, trivial⟩ (fun _ => rL) ?_
    refine h_store ((bp b).add 67) [.int .i64 (s.left - 1)] rfl ?_ (M1.wr (by rw [List.length_append, outC_len M1.m64]; simp)) ?_
    · show [Value.int .i64 (intOp .sub .i64 s.left 1)] = _
      rw [eL]
    have M2 := M1.setLeft (s.left - 1)
    generalize h1.sets ((bp b).add 67) [.int .i64 (s.left - 1)] = h2 at M2 ⊢
    simp only [List.cons_append, List.nil_append]
    have gP : ∀ i, getP { s with left := s.left - 1 } i = getP s i := fun _ => rfl
    refine h_ite (fun c1 => ?_) (fun c1 => ?_)
    · have k1 := cK rfl c1; rw [decide_eq_true_eq] at k1
      have hd := hp.k1 k1
      obtain ⟨w1, M3⟩ := M2.setPlace (inP hd) y.n
      exact ⟨fun _ => needI rfl hpl hd, h_store _ [.int .i64 y.n] rfl rfl w1 (fin rfl rfl rfl (stepM_1 k1 hz) ⟨_, _, M3⟩ rfl)⟩
    have k1 := cK rfl c1; rw [decide_eq_false_iff_not] at k1
    refine h_ite (fun c3 => ?_) (fun c3 => ?_)
    · have k3 := cK rfl c3; rw [decide_eq_true_eq] at k3
      obtain ⟨hd, ha, hb', ho⟩ := hp.k3 k3
      have rb := M2.place (inP hb')
      refine ⟨fun _ => needI rfl hpl ha, h_load [.int .i64 (getP s y.a)] ⟨⟨_, rfl⟩, trivial⟩ (fun _ => M2.place (inP ha)) ⟨fun _ => needI rfl hpl hb', h_load [.int .i64 (getP s y.b)] ⟨⟨_, rfl⟩, trivial⟩ (fun _ => rb) ⟨fun _ => rb, ?_⟩⟩⟩
      simp only [List.cons_append, List.nil_append]
      have hbn := binM_none (a := getP s y.a) (c := getP s y.b) ho
      refine h_ite (fun hc => ?_) (fun hc => ?_)
      · replace hc : vb (if cmpOp .eql y.op 7 = true then Value.bool (cmpOp .eql (getP s y.b) 0) else .bool false) = true := hc
        rw [cmp_eql, cmp_eql] at hc
        have : y.op = 7 ∧ getP s y.b = 0 := by by_cases q : y.op = 7 <;> simp [q, vb] at hc <;> exact ⟨q, hc⟩
        have hnone := hbn.2 this
        refine h_store ((bp b).add 0) [.int .i64 2] rfl rfl (M2.wr (by simp [outC])) ?_
        exact starve rfl (M2.setHow 2) rfl fun f hf => by
          subst hf
          refine hrun _ (.stop hx hy ?_)
          rw [stepM_3 k3 hz, hnone]
      · replace hc : vb (if cmpOp .eql y.op 7 = true then Value.bool (cmpOp .eql (getP s y.b) 0) else .bool false) = false := hc
        rw [cmp_eql, cmp_eql] at hc
        have hne : ¬ (y.op = 7 ∧ getP s y.b = 0) := fun q => by simp [q.1, q.2, vb] at hc
        have hsome : binM y.op (getP s y.a) (getP s y.b) ≠ none := fun e => hne (hbn.1 e)
        obtain ⟨q, hq⟩ := Option.ne_none_iff_exists'.1 hsome
        refine h_call0 (s36 (h := h2) y.op (getP s y.a) (getP s y.b) ho (fun e e' => hne ⟨e, e'⟩)) ?_
        rintro _ _ ⟨rfl, rfl⟩
        rw [hq]
        obtain ⟨w1, M3⟩ := M2.setPlace (inP hd) q
        exact ⟨[.int .i64 q], ⟨⟨_, rfl⟩, trivial⟩, rfl, ⟨fun _ => needI rfl hpl hd, h_store _ [.int .i64 q] rfl rfl w1 (fin rfl rfl rfl (by rw [stepM_3 k3 hz, hq]) ⟨_, _, M3⟩ rfl)⟩⟩
    have k3 := cK rfl c3; rw [decide_eq_false_iff_not] at k3
    have needW : ∀ {G : List Value} {i : Nat} {n : Int}, gv G i = .int .i64 n → needs G [(.cmp .geq (.op .rem .u64 (.conv .u64 (.var i)) (.lit 64)) (.lit 0)), (.cmp .lss (.op .rem .u64 (.conv .u64 (.var i)) (.lit 64)) (.lit 64))] := fun {G i n} e => by
      obtain ⟨e1, e2⟩ := word_val n
      simp only [needs, X.den, e, vi_int, vb_bool, e1, cmp_geq, cmp_lss, decide_eq_true_eq, and_true]
      omega
    refine h_ite (fun c4 => ?_) (fun c4 => ?_)
    · have k4 := cK rfl c4; rw [decide_eq_true_eq] at k4
      obtain ⟨hd, ha⟩ := hp.k4 k4
      obtain ⟨e1, e2⟩ := word_val (getP s y.a)
      obtain ⟨w1, M3⟩ := M2.setPlace (inP hd) (s.mem.getD (wordI (getP s y.a)) 0)
      refine ⟨fun _ => needI rfl hpl ha, h_load [.int .i64 (getP s y.a)] ⟨⟨_, rfl⟩, trivial⟩ (fun _ => M2.place (inP ha)) ⟨fun _ => needW rfl, h_load [.int .i64 (s.mem.getD (wordI (getP s y.a)) 0)] ⟨⟨_, rfl⟩, trivial⟩ (fun _ => ?_) ⟨fun _ => needI rfl hpl hd, h_store _ [.int .i64 (s.mem.getD (wordI (getP s y.a)) 0)] rfl rfl w1 (fin rfl rfl rfl (stepM_4 k4 hz) ⟨_, _, M3⟩ rfl)⟩⟩⟩
      show Reads h2 (((bp b).add 3).add ((intOp .rem .u64 (IntKind.u64.wrap (getP s y.a)) 64).toNat * 1)) _
      rw [e1, Int.toNat_natCast, Nat.mul_one, add_add]; exact M2.mem_ e2
    have k4 := cK rfl c4; rw [decide_eq_false_iff_not] at k4
    refine h_ite (fun c5 => ?_) (fun c5 => ?_)
    · have k5 := cK rfl c5; rw [decide_eq_true_eq] at k5
      obtain ⟨ha, hb'⟩ := hp.k5 k5
      obtain ⟨e1, e2⟩ := word_val (getP s y.a)
      refine ⟨fun _ => needI rfl hpl ha, h_load [.int .i64 (getP s y.a)] ⟨⟨_, rfl⟩, trivial⟩ (fun _ => M2.place (inP ha)) ⟨fun _ => needI rfl hpl hb', h_load [.int .i64 (getP s y.b)] ⟨⟨_, rfl⟩, trivial⟩ (fun _ => M2.place (inP hb')) ⟨fun _ => needW rfl, h_store ((bp b).add (3 + wordI (getP s y.a))) [.int .i64 (getP s y.b)] ?_ rfl (M2.wr (by rw [List.length_append, outC_len M2.m64]; omega)) (fin rfl rfl rfl (stepM_5 k5 hz) ⟨_, _, M2.setMem e2 _⟩ rfl)⟩⟩⟩
      show ((bp b).add 3).add ((intOp .rem .u64 (IntKind.u64.wrap (getP s y.a)) 64).toNat * 1) = _
      rw [e1, Int.toNat_natCast, Nat.mul_one, add_add]
    have k5 := cK rfl c5; rw [decide_eq_false_iff_not] at k5
    refine h_ite (fun c6 => ?_) (fun c6 => ?_)
    rotate_left
    · have k6 := cK rfl c6; rw [decide_eq_false_iff_not] at k6
      exact fin rfl rfl rfl (stepM_n ⟨k2, k7, k8⟩ k1 k3 k4 k5 k6 hz) ⟨_, _, M2⟩ rfl
    have k6 := cK rfl c6; rw [decide_eq_true_eq] at k6
    obtain ⟨hd, ha⟩ := hp.k6 k6
    have hal := hp.al
    have hul := hu.len
    refine h_loop (fun xs h' => ∃ (i : Nat) (u' : Value) (f : List Nat), xs = [.int .i64 (i : Int), u'] ∧ i ≤ y.args.length ∧ Mc 37 [] h0 h' b pv cv1 fP fC1 { s with left := s.left - 1 } ∧ RowF h' 2 1 u' (((y.args.take i).map (getP s)).map (.int .i64)) f ∧ Fresh h0 f ∧ ∀ c ∈ f, c ∉ b :: (fP ++ fC1))
      (fun xs h' => y.args.length - (vi (gv xs 0)).toNat) ⟨0, .slice none 0 0, [], rfl, Nat.zero_le _, M2, .inl ⟨rfl, rfl, rfl⟩, (fun c hc => by cases hc), (fun c hc => by cases hc)⟩ ?_
    rintro xs h3 J3 - ⟨i, u', f, rfl, hi, M3, hu', hf, hd'⟩ hJ3
    simp only [List.cons_append, List.nil_append]
    refine h_ite (fun hc => ?_) (fun hc => ?_)
    · replace hc : cmpOp .lss (i : Int) ((vlen u : Nat) : Int) = true := hc
      have n3 := hc
      rw [hul, cmp_lss, decide_eq_true_eq] at hc
      have hil : i < y.args.length := by omega
      have hz' : y.args[i]? = some y.args[i] := List.getElem?_eq_getElem hil
      have hzm : y.args[i] ∈ y.args := List.getElem_mem _
      generalize hze : y.args[i] = z at hz' hzm
      have hzn := ha z hzm
      have hzr := (hu.le M3.kept.le_nil).read hz'
      refine ⟨fun _ => ⟨ge0 i, n3, trivial⟩, h_load [.int .i64 z] ⟨⟨_, rfl⟩, trivial⟩ (fun _ => hzr) ⟨fun _ => needI rfl hpl hzn, h_load [.int .i64 (getP s z)] ⟨⟨_, rfl⟩, trivial⟩ (fun _ => M3.place (inP hzn)) ⟨fun _ => hzr, ?_⟩⟩⟩
      simp only [List.cons_append, List.nil_append]
      refine ⟨[.int .i64 (getP s z)], 1, ⟨rfl, rfl⟩, app_rowF hu' rfl (by rw [zeroI64]; rfl) ?_ ?_⟩
      · have e1 := hu'.row0.len
        simp only [List.length_map, List.length_take, Nat.mul_one] at e1
        show (vlen u' + 1) * 8 ≤ _
        omega
      intro u'' h4 f' q1 q2 q3 q4
      have M4 : Mc 37 [] h0 h4 b pv cv1 fP fC1 { s with left := s.left - 1 } := by
        have ag : ∀ {g : List Nat}, (∀ c ∈ g, c ∈ b :: (fP ++ fC1)) → Live h3 g → Agree h3 h4 g := fun hg hl => q3.agree hl fun c hc hc' => hd' c hc' (hg c hc)
        refine ⟨?_, M3.m64, M3.pl.agree (ag (fun c hc => by simp [hc]) M3.pl.live), M3.cl.agree callF_good (ag (fun c hc => by simp [hc]) (M3.cl.live callF_good)), M3.nd, M3.fr, M3.kept.trans_nil q3 hf⟩
        rw [q3 b (fun hb => hd' b hb (by simp)) (by rw [M3.obj]; rfl)]; exact M3.obj
      have hf' : Fresh h0 f' := by
        rcases q4 with rfl | ⟨c, rfl, hc⟩
        · exact hf
        · intro q hq; rw [List.mem_singleton] at hq; subst hq; exact H.le_none M3.kept.le_nil hc
      have hd'' : ∀ c ∈ f', c ∉ b :: (fP ++ fC1) := by
        rcases q4 with rfl | ⟨c, rfl, hc⟩
        · exact hd'
        · intro q hq hq'
          rw [List.mem_singleton] at hq; subst hq
          rcases List.mem_cons.1 hq' with rfl | hq'
          · rw [M3.obj] at hc; cases hc
          · rcases List.mem_append.1 hq' with hq' | hq'
            · have := M3.pl.live q hq'; rw [hc] at this; cases this
            · have := M3.cl.live callF_good q hq'; rw [hc] at this; cases this
      refine ⟨fun _ => (hu.le M4.kept.le_nil).read hz', again_of (xs := [.int .i64 ((i + 1 : Nat) : Int), u'']) (J := J3) ?_ rfl (hJ3 _ _ ⟨i + 1, u'', f', rfl, by omega, M4, ?_, hf', hd''⟩ ?_)⟩
      · exact congrArg (fun z => [Value.int .i64 z, u'']) (int_add_one (n := y.args.length) (by omega) (by omega))
      · rw [List.take_succ_eq_append_getElem hil, hze]
        simpa using q1
      · simp only [gv_zero, vi_int]; omega
    · replace hc : cmpOp .lss (i : Int) ((vlen u : Nat) : Int) = false := hc
      rw [hul, cmp_lss, decide_eq_false_iff_not] at hc
      have hie : i = y.args.length := by omega
      rw [hie, List.take_length] at hu'
      refine h_load [cv1] ⟨M3.out, trivial⟩ (fun _ => M3.calls_) ⟨[.int .i64 y.n, u'], 1, ⟨rfl, rfl⟩, ?_⟩
      refine M3.addCall (l := y.args.map (getP s)) hu' hf hd' (by show s.calls.length ≤ _; omega) zeroCall fun cv' h4 fC' q => ?_
      obtain ⟨q1, M4⟩ := q cv' rfl
      refine h_store ((bp b).add 2) [cv'] rfl rfl q1 ?_
      generalize h4.sets ((bp b).add 2) [cv'] = h5 at M4 ⊢
      obtain ⟨w1, M5⟩ := M4.setPlace (inP hd) 0
      refine ⟨fun _ => needI rfl hpl hd, h_store ((vaddr pv).add (y.d.toNat * 1)) [.int .i64 0] rfl rfl w1 ?_⟩
      generalize h5.sets ((vaddr pv).add (y.d.toNat * 1)) [.int .i64 0] = h6 at M5 ⊢
      have hst := stepM_6 (R := R) k6 hz
      have hg := stepM_good (R := R) (x := y) g1
      rw [hst] at hg
      have hlen : (setP (setP { s with left := s.left - 1, calls := s.calls ++ [(y.n, y.args.map (getP s))] } y.d 0) y.d (s.more.headD 0)).places = (setP { s with left := s.left - 1, calls := s.calls ++ [(y.n, y.args.map (getP s))], more := s.more.tail } y.d (s.more.headD 0)).places := by simp [setP, List.set_set]
      have finC : ∀ {G : List Value} {h' : H} {t : Rs}, gv G 12 = .int .i64 (k : Int) → gv G 13 = .int .i64 (ak : Int) → gv G 14 = .int .i64 (c : Int) → Mc 37 [] h0 h' b pv cv' fP fC' t → outC t cv' = outC (stepM R y s).1 cv' → t.mem = s.mem → t.places = (stepM R y s).1.places → t.calls = (stepM R y s).1.calls →
          holds Try.prog Q (.again 0 [(.int .i64 (.op .add .i64 (.var 12) (.lit 1))), (.int .i64 (.op .add .i64 (.var 13) (.lit 1))), (.int .i64 (.var 14))]) G [J] h' := fun {G h' t} e12 e13 e14 M ho hm hpp hcc => by
        have M' : Mc 37 [] h0 h' b pv cv' fP fC' (stepM R y s).1 := by
          refine ⟨by rw [← ho]; exact M.obj, by rw [hst]; exact M1.m64, by rw [← hpp]; exact M.pl, by rw [← hcc]; exact M.cl, M.nd, M.fr, M.kept⟩
        rw [hst] at M'
        refine again_of (xs := [.int .i64 ((k + 1 : Nat) : Int), .int .i64 ((ak + 1 : Nat) : Int), .int .i64 (c : Int)]) (J := J) ?_ rfl (hJ _ _ ⟨k + 1, ak + 1, c, _, x, rfl, ⟨_, _, M'⟩, hg, hx, by omega, ?_, ?_, fun f hf => hrun f (.step hx hy hst hf)⟩ ?_)
        · simp only [SV.denL, SV.den, X.den, e12, e13, e14, vi_int]
          rw [int_add_one (n := x.ins.length) hkl (by omega), int_add_one (n := 2000001) (k := ak) (by omega) (by omega)]
        · show s.more.tail = _
          rw [hmore, List.tail_drop]
        · show ((ak + 1 : Nat) : Int) + (s.left - 1) ≤ _
          omega
        · rw [hLn ⟨_, _, M'⟩, l1]; simp only [gv_zero, vi_int, Int.toNat_natCast]
          show (s.left - 1).toNat * 2000 + _ < _
          omega
      refine h_ite (fun hc2 => ?_) (fun hc2 => ?_)
      · replace hc2 : cmpOp .lss (ak : Int) ((vlen nv : Nat) : Int) = true := hc2
        have n4 := hc2
        rw [hnl, cmp_lss, decide_eq_true_eq] at hc2
        have hal' : ak < ans.length := by omega
        have hqr := (hnv.le M5.kept.le_nil).read (i := ak) (x := ans[ak]) (List.getElem?_eq_getElem hal')
        have hhd : s.more.headD 0 = ans[ak] := by rw [hmore, List.drop_eq_getElem_cons hal']; rfl
        rw [← hhd] at hqr
        obtain ⟨w2, M6⟩ := M5.setPlace (i := y.d) (by show inN ((s.places.set _ _).length : Nat) _; rw [List.length_set]; exact inP hd) (s.more.headD 0)
        refine ⟨fun _ => ⟨ge0 ak, n4, trivial⟩, h_load [.int .i64 (s.more.headD 0)] ⟨⟨_, rfl⟩, trivial⟩ (fun _ => hqr) ⟨fun _ => needI rfl hpl hd, h_store _ [.int .i64 (s.more.headD 0)] rfl rfl w2 (finC rfl rfl rfl M6 (by rw [hst]; rfl) rfl (by rw [hst]; exact hlen) (by rw [hst]; rfl))⟩⟩
      · replace hc2 : cmpOp .lss (ak : Int) ((vlen nv : Nat) : Int) = false := hc2
        rw [hnl, cmp_lss, decide_eq_false_iff_not] at hc2
        have hhd : s.more.headD 0 = 0 := by rw [hmore, List.drop_eq_nil_of_le (by omega)]; rfl
        exact finC rfl rfl rfl M5 (by rw [hst]; rfl) rfl (by rw [hst, hhd]; rfl) (by rw [hst]; rfl)
  · replace hc : cmpOp .lss (k : Int) ((vlen w : Nat) : Int) = false := hc
    rw [hw.len, cmp_lss, decide_eq_false_iff_not] at hc
    have hke : k = x.ins.length := by omega
    simp only [List.cons_append, List.nil_append]
    refine h_load [.int .i64 s.left] ⟨⟨_, rfl⟩, trivial⟩ (fun _ => rL) (h_ite (fun hz => ?_) (fun hz => ?_))
    · replace hz : cmpOp .eql s.left 0 = true := hz
      rw [cmp_eql, decide_eq_true_eq] at hz
      refine h_store ((bp b).add 0) [.int .i64 3] rfl rfl (M1.wr (by simp [outC])) ?_
      exact starve rfl (M1.setHow 3) rfl fun f hf => by subst hf; exact hrun _ (.fin hx hke (endS_0 hz))
    replace hz : cmpOp .eql s.left 0 = false := hz
    rw [cmp_eql, decide_eq_false_iff_not] at hz
    refine h_load [.int .i64 s.left] ⟨⟨_, rfl⟩, trivial⟩ (fun _ => rL) ?_
    refine h_store ((bp b).add 67) [.int .i64 (s.left - 1)] rfl ?_ (M1.wr (by rw [List.length_append, outC_len M1.m64]; simp)) ?_
    · show [Value.int .i64 (intOp .sub .i64 s.left 1)] = _
      rw [eL]
    have M2 := M1.setLeft (s.left - 1)
    have hrE2 : Reads (h1.sets ((bp b).add 67) [.int .i64 (s.left - 1)]) (((vaddr bv).add (c * 5)).add 1) (endC x.en) := (hr.le M2.kept.le_nil).sub fun j z hz => by rw [Nat.add_comm]; simpa using hz
    generalize h1.sets ((bp b).add 67) [.int .i64 (s.left - 1)] = h2 at M2 hrE2 ⊢
    refine ⟨fun _ => ⟨ge0 c, n1, trivial⟩, h_load (endC x.en) (endFit x.en) (fun _ => hrE2) ?_⟩
    simp only [List.cons_append, List.nil_append, endC]
    have inP : ∀ {i : Int}, inN ((R + S : Nat) : Int) i → inN (s.places.length : Nat) i := fun h => by rw [hplen]; exact h
    refine h_ite (fun c3 => ?_) (fun c3 => ?_)
    · replace c3 : cmpOp .eql x.en.kind 3 = true := c3
      rw [cmp_eql, decide_eq_true_eq] at c3
      have ha := hB.en.1 (by omega)
      have M3 := M2.setHow 1
      refine ⟨fun _ => needI rfl hpl ha, h_load [.int .i64 (getP s x.en.a)] ⟨⟨_, rfl⟩, trivial⟩ (fun _ => M2.place (inP ha)) (h_store ((bp b).add 0) [.int .i64 1] rfl rfl (M2.wr (by simp [outC])) ⟨fun _ => M3.place (inP ha), h_store ((bp b).add 1) [.int .i64 (getP s x.en.a)] rfl rfl (M3.wr (by simp [outC])) ?_⟩)⟩
      exact starve rfl (M3.setValue (getP s x.en.a)) rfl fun f hf => by subst hf; exact hrun _ (.fin hx hke (endS_3 hz c3))
    · replace c3 : cmpOp .eql x.en.kind 3 = false := c3
      rw [cmp_eql, decide_eq_false_iff_not] at c3
      have c2 : ∀ {G : List Value}, gv G 18 = .int .u8 x.en.kind → vb ((X.cmp .eql (.var 18) (.lit 2)).den G) = true → x.en.kind = 2 := fun e1 h => by
        simpa only [X.den, e1, vi_int, vb_bool, cmp_eql, decide_eq_true_eq] using h
      refine ⟨fun q => needI rfl hpl (hB.en.1 (by rw [c2 rfl q]; omega)), h_load [.int .i64 (getP s x.en.a)] ⟨⟨_, rfl⟩, trivial⟩ (fun q => M2.place (inP (hB.en.1 (by rw [c2 rfl q]; omega)))) ?_⟩
      obtain ⟨q, hq⟩ : ∃ q, endS x.en s = ({ s with left := s.left - 1 }, some q) ∧ vi ((X.ite (.ite (.cmp .eql (.var 18) (.lit 2)) (.cmp .eql (.var 22) (.lit 0)) (.tt false)) (.var 21) (.var 20)).den
          ([bv, .int .i64 (R : Int), g2, g3, g4, g5, nv, g7, pv, g9, pV b, g11, .int .i64 (k : Int), .int .i64 (ak : Int), .int .i64 (c : Int), w, .int .i64 s.left, .int .i64 s.left, .int .u8 x.en.kind, .int .i64 x.en.a, .int .i64 x.en.to, .int .i64 x.en.el] ++ [.int .i64 (getP s x.en.a)])) = q := by
        by_cases hq : x.en.kind = 2 ∧ getP s x.en.a = 0
        · refine ⟨x.en.el, endS_b hz c3 hq, ?_⟩
          show vi (if vb (if cmpOp .eql x.en.kind 2 = true then Value.bool (cmpOp .eql (getP s x.en.a) 0) else .bool false) = true then Value.int .i64 x.en.el else .int .i64 x.en.to) = _
          rw [cmp_eql, cmp_eql, hq.1, hq.2]; rfl
        · refine ⟨x.en.to, endS_t hz c3 hq, ?_⟩
          show vi (if vb (if cmpOp .eql x.en.kind 2 = true then Value.bool (cmpOp .eql (getP s x.en.a) 0) else .bool false) = true then Value.int .i64 x.en.el else .int .i64 x.en.to) = _
          have : vb (if cmpOp .eql x.en.kind 2 = true then Value.bool (cmpOp .eql (getP s x.en.a) 0) else .bool false) = false := by
            rw [cmp_eql, cmp_eql]
            by_cases q2 : x.en.kind = 2
            · have : getP s x.en.a ≠ 0 := fun e => hq ⟨q2, e⟩
              simp [q2, this, vb]
            · simp [q2, vb]
          rw [this]; rfl
      obtain ⟨hq, hqv⟩ := hq
      obtain ⟨e1, e2, e3, e4⟩ := endS_left hq
      have hin : inN bs.length q := by
        rcases e3 with rfl | ⟨rfl, q2⟩
        · exact hB.en.2.1 e4
        · exact hB.en.2.2 q2
      obtain ⟨d, rfl⟩ : ∃ d : Nat, q = (d : Int) := ⟨q.toNat, by have := hin.1; omega⟩
      have hdl : d < bs.length := by have := hin.2; omega
      have hg := endS_good (e := x.en) g1
      rw [hq] at hg
      refine again_of (xs := [.int .i64 ((0 : Nat) : Int), .int .i64 (ak : Int), .int .i64 (d : Int)]) (J := J) ?_ rfl (hJ _ _ ⟨0, ak, d, _, bs[d], rfl, ⟨_, _, M2⟩, hg, List.getElem?_eq_getElem hdl, Nat.zero_le _, hmore, by show (ak : Int) + (s.left - 1) ≤ _; omega, fun f hf => hrun f (.go hx hke hq hf)⟩ ?_)
      · exact congrArg (fun z => [Value.int .i64 0, .int .i64 (ak : Int), .int .i64 z]) hqv
      · rw [hLn ⟨_, _, M2⟩, l1]; simp only [gv_zero, vi_int, Int.toNat_natCast]
        show (s.left - 1).toNat * 2000 + _ < _
        omega
end
end Go.Proofs.Ytodeffobplpcnaa

/-
  The document's run, whole. Conditions: as the contract says.
-/
set_option linter.unusedVariables false
set_option linter.unusedSimpArgs false
namespace Go.Proofs.Ytodeffobplpcnaa
open Go

theorem places0_set {n first i : Nat} {args : List Int} (hf : first + args.length ≤ n) (hi : i < args.length) : (places0 n first (args.take i)).set (first + i) args[i] = places0 n first (args.take (i + 1)) := by
  have h1 : (args.take i).length = i := by simp; omega
  have h2 : (args.take (i + 1)).length = i + 1 := by simp; omega
  unfold places0
  rw [h1, h2, List.append_assoc, List.set_append_right _ _ (by simp), List.length_replicate, Nat.add_sub_cancel_left, List.set_append_right _ _ (by omega), h1, Nat.sub_self]
  obtain ⟨m, hm⟩ : ∃ m, n - first - i = m + 1 := ⟨n - first - i - 1, by omega⟩
  rw [hm, List.replicate_succ, List.set_cons_zero, List.take_succ_eq_append_getElem hi, show n - first - (i + 1) = m by omega]
  simp only [List.append_assoc, List.cons_append, List.nil_append]
theorem mem_set {i : Nat} {mem : List Int} (hi : i < mem.length) (h64 : i < 64) : (mem.take i ++ List.replicate (64 - i) 0).set i mem[i] = mem.take (i + 1) ++ List.replicate (64 - (i + 1)) 0 := by
  have h1 : (mem.take i).length = i := by simp; omega
  rw [List.set_append_right _ _ (by omega), h1, Nat.sub_self]
  obtain ⟨m, hm⟩ : ∃ m, 64 - i = m + 1 := ⟨64 - i - 1, by omega⟩
  rw [hm, List.replicate_succ, List.set_cons_zero, List.take_succ_eq_append_getElem hi, show 64 - (i + 1) = m by omega]
  simp only [List.append_assoc, List.cons_append, List.nil_append]
theorem mem_done {i : Nat} {mem : List Int} (hi : i ≤ mem.length) (h64 : i ≤ 64) (h : ¬ (i < mem.length ∧ i < 64)) : mem.take i ++ List.replicate (64 - i) 0 = mem0 mem := by
  unfold mem0
  by_cases q : mem.length ≤ 64
  · have : i = mem.length := by omega
    rw [this, List.take_length, List.take_of_length_le q]
  · have : i = 64 := by omega
    rw [this, show 64 - mem.length = 64 - 64 by omega]
theorem s20 {h : H} {bv av mv nv : Value} {bs : List Blk} {args mem ans : List Int} {R S first : Nat} {fuel : Int} (hb : BlksAt h bv bs) (ha : IntsAt h av args) (hm : IntsAt h mv mem) (hn : IntsAt h nv ans)
    (hok : ∀ x ∈ bs, BlOk R ((R + S : Nat) : Int) bs.length x) (hb1 : 1 ≤ bs.length) (hb16 : bs.length ≤ 1000) (hRS : R + S ≤ 1000) (hf : first + args.length ≤ R + S) (hfu : 0 ≤ fuel ∧ fuel ≤ 1100000) :
    CallsA Try.prog 20 (fun _ => [bv, .int .i64 (R : Int), .int .i64 (S : Int), .int .i64 (first : Int), .agg #[av, mv, nv, .int .i64 fuel]]) [] h (Ret fun r h' => KeptH h h' [] ∧ ∃ t, Runs bs R 0 0 (start (R + S) first args mem ans fuel) t ∧ OutR h h' r t) := by
  refine c20 (G := [bv, .int .i64 (R : Int), .int .i64 (S : Int), .int .i64 (first : Int), av, mv, nv, .int .i64 fuel]) ⟨hb.fit, ⟨_, rfl⟩, ⟨_, rfl⟩, ⟨_, rfl⟩, ha.fit, hm.fit, hn.fit, ⟨_, rfl⟩, trivial⟩ ?_
  refine h_mkI (m := R + S) (vi_add rfl rfl (by omega)) (by omega) fun pb hpb => ?_
  obtain ⟨n, hnd⟩ : ∃ n, n = R + S := ⟨_, rfl⟩
  rw [← hnd] at hRS hf hok ⊢
  obtain ⟨pv, hpv⟩ : ∃ pv, pv = Value.slice (some ⟨pb, 0, none⟩) n n := ⟨_, rfl⟩
  rw [← hpv]
  simp only [List.cons_append, List.nil_append]
  have hal := ha.len
  have hml := hm.len
  have hpl : vlen pv = n := by rw [hpv]; rfl
  have hpa : vaddr pv = bp pb := by rw [hpv]; rfl
  refine h_loop (fun xs h' => ∃ i : Nat, xs = [.int .i64 (i : Int)] ∧ i ≤ args.length ∧ KeptH h h' [] ∧ h' pb = some (.cells ((places0 n first (args.take i)).map (Value.int .i64)).toArray 2 (0, 0)))
    (fun xs h' => args.length - (vi (gv xs 0)).toNat) ⟨0, rfl, Nat.zero_le _, KeptH.put hpb _, ?_⟩ ?_
  · rw [H.put_same]
    congr 3
    simp only [places0, List.take_zero, List.append_nil, List.length_nil, List.replicate_append_replicate]
    rw [show first + (n - first - 0) = n by omega]
  rintro xs h1 J - ⟨i, rfl, hi, hk1, hp1⟩ hJ
  simp only [List.cons_append, List.nil_append]
  refine h_ite (fun hc => ?_) (fun hc => ?_)
  · replace hc : cmpOp .lss (i : Int) ((vlen av : Nat) : Int) = true := hc
    have n1 := hc
    rw [hal, cmp_lss, decide_eq_true_eq] at hc
    have hil : i < args.length := by omega
    have hz := List.getElem?_eq_getElem hil
    have hin : inN (n : Nat) ((first : Int) + (i : Int)) := ⟨by omega, by omega⟩
    have hlen : (places0 n first (args.take i)).length = n := places0_len (by rw [List.length_take]; omega)
    have ead : (vaddr pv).add ((intOp .add .i64 (first : Int) (i : Int)).toNat * 1) = (bp pb).add (first + i) := by
      rw [addr_add hin (by omega), hpa]; congr 1; omega
    refine ⟨fun _ => ⟨ge0 i, n1, trivial⟩, h_load [.int .i64 args[i]] ⟨⟨_, rfl⟩, trivial⟩ (fun _ => (ha.le hk1.le_nil).read hz) ⟨fun _ => needA rfl rfl hpl hin (by omega), h_store ((bp pb).add (first + i)) [.int .i64 args[i]] ead rfl (writable_at hp1 (by rw [List.length_map, hlen, List.length_cons, List.length_nil]; omega)) ?_⟩⟩
    obtain ⟨s1, s2⟩ := set_obj (w := .int .i64 args[i]) (k := first + i) hp1 (by rw [List.length_map, hlen]; omega)
    refine again_of (xs := [.int .i64 ((i + 1 : Nat) : Int)]) (J := J) ?_ rfl (hJ _ _ ⟨i + 1, rfl, by omega, ?_, ?_⟩ ?_)
    · exact congrArg (fun z => [Value.int .i64 z]) (int_add_one (n := args.length) (by omega) (by omega))
    · exact hk1.trans_nil (f := [pb]) (fun c hc _ => s2 c fun e => hc (by rw [e]; simp)) (fun c hc => by rw [List.mem_singleton] at hc; subst hc; exact hpb)
    · rw [s1, ← places0_set hf hil, List.map_set]
    · simp only [gv_zero, vi_int]; omega
  replace hc : cmpOp .lss (i : Int) ((vlen av : Nat) : Int) = false := hc
  rw [hal, cmp_lss, decide_eq_false_iff_not] at hc
  have hie : i = args.length := by omega
  rw [hie, List.take_length] at hp1
  refine h_alloc (outC ⟨0, 0, [], List.replicate 64 0, 0, [], []⟩ (.slice none 0 0)) rfl fun b hbn => ?_
  have hbh : h b = none := H.le_none hk1.le_nil hbn
  have hbp : b ≠ pb := fun e => by rw [e, hp1] at hbn; cases hbn
  simp only [List.cons_append, List.nil_append]
  generalize hO : outC ⟨0, 0, [], List.replicate 64 0, 0, [], []⟩ (.slice none 0 0) = O
  have hOl : O.length = 68 := by rw [← hO]; rfl
  generalize hh2 : h1.put b (.cells O.toArray 37 (0, 0)) = h2
  have h2b : h2 b = some (.cells O.toArray 37 (0, 0)) := by rw [← hh2]; exact H.put_same
  have h2p : h2 pb = some (.cells ((places0 n first args).map (Value.int .i64)).toArray 2 (0, 0)) := by rw [← hh2, H.put_other hbp.symm]; exact hp1
  have k2 : KeptH h h2 [] := by rw [← hh2]; exact hk1.trans_nil (KeptH.put hbn []) (fun c hc => by cases hc)
  obtain ⟨s1, s2⟩ := sets_block (b := b) (e := 37) (f := (0, 0)) (outC ⟨0, 0, [], List.replicate 64 0, fuel, [], []⟩ (.slice none 0 0)) h2 0 [] O [] rfl (by rw [hOl]; rfl) (by simpa using h2b)
  refine h_store (bp b) (outC ⟨0, 0, [], List.replicate 64 0, fuel, [], []⟩ (.slice none 0 0)) rfl rfl ?_ ?_
  · have := writable_at (k := 0) (m := 68) h2b (by omega)
    rw [add_zero'] at this; exact this
  generalize hh3 : h2.sets (bp b) (outC ⟨0, 0, [], List.replicate 64 0, fuel, [], []⟩ (.slice none 0 0)) = h3 at s1 s2 ⊢
  have M3 : Mc 37 [] h h3 b pv (.slice none 0 0) [pb] [] { start n first args mem ans fuel with mem := mem.take 0 ++ List.replicate (64 - 0) 0 } := by
    refine ⟨by rw [s1]; simp [outC, start], by simp, .inr ⟨pb, n, n, [], hpv, ?_, ?_, by simp, Nat.le_refl _, rfl⟩, SlF.nil, by simp [hbp], fun c hc => ?_, ?_⟩
    · rw [s2 pb hbp.symm, h2p, List.append_nil]; rfl
    · have := places0_len (n := n) (first := first) (args := args) hf
      simp only [start, List.length_map]
      rw [this]; omega
    · simp only [List.append_nil, List.mem_cons, List.not_mem_nil, or_false] at hc
      rcases hc with rfl | rfl
      · exact hbh
      · exact hpb
    · exact k2.trans_nil (f := [b]) (fun c hc _ => s2 c fun e => hc (by rw [e]; simp)) (fun c hc => by rw [List.mem_singleton] at hc; subst hc; exact hbh)
  clear hh3 s1 s2 h2b h2p k2 hh2
  refine h_loop (fun xs h' => ∃ j : Nat, xs = [.int .i64 (j : Int)] ∧ j ≤ mem.length ∧ j ≤ 64 ∧ Mc 37 [] h h' b pv (.slice none 0 0) [pb] [] { start n first args mem ans fuel with mem := mem.take j ++ List.replicate (64 - j) 0 })
    (fun xs h' => 64 - (vi (gv xs 0)).toNat) ⟨0, rfl, Nat.zero_le _, by omega, M3⟩ ?_
  rintro xs h4 J4 - ⟨j, rfl, hj, hj64, M4⟩ hJ4
  simp only [List.cons_append, List.nil_append]
  refine h_ite (fun hc => ?_) (fun hc => ?_)
  · replace hc : vb (if cmpOp .lss (j : Int) ((vlen mv : Nat) : Int) = true then Value.bool (cmpOp .lss (j : Int) 64) else .bool false) = true := hc
    rw [hml, cmp_lss, cmp_lss] at hc
    have hjj : j < mem.length ∧ j < 64 := by
      by_cases q : (j : Int) < (mem.length : Int)
      · simp [q, vb] at hc; omega
      · simp [q, vb] at hc
    have n1 : cmpOp .lss (j : Int) ((vlen mv : Nat) : Int) = true := by rw [hml]; exact ltN hjj.1
    have n2 : cmpOp .lss (j : Int) 64 = true := by rw [cmp_lss, decide_eq_true_eq]; omega
    refine ⟨fun _ => ⟨ge0 j, n1, trivial⟩, h_load [.int .i64 mem[j]] ⟨⟨_, rfl⟩, trivial⟩ (fun _ => (hm.le M4.kept.le_nil).read (List.getElem?_eq_getElem hjj.1)) ⟨fun _ => ⟨ge0 j, n2, trivial⟩, h_store ((bp b).add (3 + j)) [.int .i64 mem[j]] ?_ rfl (M4.wr (by rw [List.length_append, outC_len M4.m64]; omega)) ?_⟩⟩
    · show ((bp b).add 3).add ((j : Int).toNat * 1) = _
      rw [Int.toNat_natCast, Nat.mul_one, add_add]
    have M5 := M4.setMem hjj.2 mem[j]
    simp only [mem_set hjj.1 hjj.2] at M5
    refine again_of (xs := [.int .i64 ((j + 1 : Nat) : Int)]) (J := J4) ?_ rfl (hJ4 _ _ ⟨j + 1, rfl, by omega, by omega, M5⟩ ?_)
    · exact congrArg (fun z => [Value.int .i64 z]) (int_add_one (n := 64) (by omega) (by omega))
    · simp only [gv_zero, vi_int]; omega
  · replace hc : vb (if cmpOp .lss (j : Int) ((vlen mv : Nat) : Int) = true then Value.bool (cmpOp .lss (j : Int) 64) else .bool false) = false := hc
    rw [hml, cmp_lss, cmp_lss] at hc
    have hjj : ¬ (j < mem.length ∧ j < 64) := fun q => by
      have a1 : (j : Int) < (mem.length : Int) := by omega
      have a2 : (j : Int) < 64 := by omega
      simp [a1, a2, vb] at hc
    rw [mem_done hj hj64 hjj] at M4
    have M5 : Mc 37 [] h h4 b pv (.slice none 0 0) [pb] [] (start n first args mem ans fuel) := M4
    subst hnd
    exact play_loop (S := S) hb hn hok hb1 hb16 hRS M5 ⟨places0_len hf, by simp only [start, List.length_nil]; omega⟩ rfl fun r h' t hr hk ho => ⟨rfl, hk, t, hr, ho⟩
end Go.Proofs.Ytodeffobplpcnaa

/-
  Outputs that are the same; inputs; a function run, code run. Conditions: as each contract says.
-/
set_option linter.unusedVariables false
set_option linter.unusedSimpArgs false
namespace Go.Proofs.Ytodeffobplpcnaa
open Go

theorem insF_noneR {f : Ins → Int} : ∀ {l : List Ins} {k : Nat}, insF f k l = none → ∀ x ∈ l, f x = 0
  | [], _, _, x, hx => by cases hx
  | y :: l, k, h, x, hx => by
    unfold insF at h
    split at h
    · cases h
    · rename_i h0
      rcases List.mem_cons.1 hx with rfl | hx
      · exact Decidable.not_not.1 h0
      · exact insF_noneR h x hx
theorem insF_someR {f : Ins → Int} : ∀ {l : List Ins} {k : Nat} {r : Nat × Int}, insF f k l = some r → r.2 ≠ 0
  | [], _, _, h => by cases h
  | y :: l, k, r, h => by
    unfold insF at h
    split at h
    · rename_i h0; cases h; exact h0
    · exact insF_someR h
theorem blkF_zeroR {f : Ins → Int} {g : Fin4 → Int} {most : Nat} : ∀ {l : List Blk} {k : Nat}, (blkF f g most k l).1 = 0 → ∀ b ∈ l, b.ins.length ≤ most ∧ (∀ x ∈ b.ins, f x = 0) ∧ g b.en = 0
  | [], _, _, b, hb => by cases hb
  | y :: l, k, h, b, hb => by
    unfold blkF at h
    split at h
    · simp at h
    · rename_i h1
      split at h
      · rename_i k' e' he
        have := insF_someR he
        exact absurd h this
      · rename_i he
        split at h
        · rename_i h2; exact absurd h h2
        · rename_i h2
          rcases List.mem_cons.1 hb with rfl | hb
          · exact ⟨by omega, insF_noneR he, Decidable.not_not.1 h2⟩
          · exact blkF_zeroR h b hb
theorem checkM_zeroR {p n : Int} {bs : List Blk} (h : (checkM p n bs).1 = 0) : 1 ≤ bs.length ∧ bs.length ≤ 16 ∧ ∀ b ∈ bs, b.ins.length ≤ 32 ∧ (∀ x ∈ b.ins, ofM x n = 0) ∧ endM b.en n bs.length 21 = 0 := by
  unfold checkM at h
  split at h
  · simp at h
  · rename_i h1
    exact ⟨by omega, by omega, blkF_zeroR h⟩

theorem mapE_zeroR {e : Int} (h : mapE e = 0) : e = 0 := by unfold mapE at h; split at h <;> simp_all
theorem mcheck_zeroR {p r s : Int} {bs : List Blk} (h : (mcheckM p r s bs).1 = 0) : (0 ≤ p ∧ p ≤ 4 ∧ 3 ≤ r ∧ r ≤ 8 ∧ p ≤ s ∧ s ≤ 64) ∧ 1 ≤ bs.length ∧ bs.length ≤ 16 ∧ ∀ b ∈ bs, b.ins.length ≤ 400 ∧ (∀ x ∈ b.ins, mofM x r s = 0) ∧ endM b.en r bs.length 21 = 0 := by
  unfold mcheckM at h
  split at h
  · simp at h
  · rename_i h1
    refine ⟨by omega, by omega, by omega, fun b hb => ?_⟩
    obtain ⟨k1, k2, k3⟩ := blkF_zeroR h b hb
    exact ⟨k1, k2, mapE_zeroR k3⟩
theorem endM_kind {e : Fin4} {R N : Int} (h : endM e R N 21 = 0) : 1 ≤ e.kind ∧ e.kind ≤ 3 := by unfold endM at h; grind (splits := 40)
theorem bl_ir {n m : Nat} {N : Int} {b : Blk} (h1 : b.ins.length ≤ 1000) (h2 : ∀ x ∈ b.ins, ofM x (n : Int) = 0) (h3 : endM b.en (n : Int) N 21 = 0) (hm : n ≤ m) (hm2 : m ≤ 1000) : BlOk (n : Int) (m : Int) N b :=
  ⟨h1, fun x hx => ofM_pl (h2 x hx) (by omega) (by omega), endM_kind h3, endM_pl h3 (by omega)⟩
theorem mofM_pl {x : Ins} {R S : Nat} (h3 : 3 ≤ R) (h8 : R ≤ 8) (hS : S ≤ 64) (h : mofM x R S = 0) : PlOk R ((R + S : Nat) : Int) x := by
  by_cases k8 : x.kind = 8
  · unfold mofM at h; rw [if_pos k8] at h
    have : (0 ≤ x.d ∧ x.d < R) ∧ (0 ≤ x.a ∧ x.a < S) ∧ x.args = [] := by grind
    obtain ⟨a, b, c⟩ := this
    exact ⟨fun k => by omega, fun k => by omega, fun k => ⟨⟨by omega, by omega⟩, ⟨by omega, by omega⟩⟩, fun k => by omega, fun k => by omega, fun k => by omega, fun k => by omega, fun k => by omega, by rw [c]; simp, .inl (by omega), .inl (by omega)⟩
  · by_cases k7 : x.kind = 7
    · unfold mofM at h; rw [if_neg k8, if_pos k7] at h
      have : (0 ≤ x.a ∧ x.a < R) ∧ (0 ≤ x.d ∧ x.d < S) ∧ x.args = [] := by grind
      obtain ⟨a, b, c⟩ := this
      exact ⟨fun k => by omega, fun k => ⟨⟨by omega, by omega⟩, ⟨by omega, by omega⟩⟩, fun k => by omega, fun k => by omega, fun k => by omega, fun k => by omega, fun k => by omega, fun k => by omega, by rw [c]; simp, .inl (by omega), .inl (by omega)⟩
    · unfold mofM at h; rw [if_neg k8, if_neg k7, ofM_mapE x R (by omega) (by omega)] at h
      exact ofM_pl (mapE_zeroR h) (by omega) (by omega)
theorem bl_mach {R S : Nat} {N : Int} {b : Blk} (h3 : 3 ≤ R) (h8 : R ≤ 8) (hS : S ≤ 64) (h1 : b.ins.length ≤ 1000) (h2 : ∀ x ∈ b.ins, mofM x R S = 0) (he : endM b.en R N 21 = 0) : BlOk R ((R + S : Nat) : Int) N b :=
  ⟨h1, fun x hx => mofM_pl h3 h8 hS (h2 x hx), endM_kind he, endM_pl he (by omega)⟩

/-! ### Outputs, read -/
def CallC (h : H) (cs : List Value) (c : Int × List Int) : Prop := ∃ u, cs = [.int .i64 c.1, u] ∧ IntsAt h u c.2
theorem callC_mono : Mono CallC := fun _ _ _ _ hl ⟨v, h1, h2⟩ => ⟨v, h1, h2.le hl⟩
abbrev CallsAt := SlAt 2 CallC
theorem rowF_ints64 {h : H} {e : TypeId} {u : Value} {l : List Int} {fp : List Nat} (k : RowF h e 1 u (l.map (.int .i64)) fp) : IntsAt h u l := rowF_ints k
theorem callF_at {h : H} {cs : List Value} {x : Int × List Int} {fp : List Nat} (k : CallF h cs x fp) : CallC h cs x := by
  obtain ⟨u, h1, h2⟩ := k; exact ⟨u, h1, rowF_ints h2⟩
def OutA (h : H) (r : Value) (t : Rs) : Prop := ∃ cv, r = .agg (outC t cv).toArray ∧ t.mem.length = 64 ∧ CallsAt h cv t.calls
theorem OutR.at_ {h0 h : H} {r : Value} {t : Rs} (o : OutR h0 h r t) : OutA h r t := by
  obtain ⟨cv, fC, h1, h2, h3, _, _⟩ := o
  exact ⟨cv, h1, h2, h3.at (by omega) callF_at⟩
theorem OutA.le {h h' : H} {r : Value} {t : Rs} (hl : h.le h') (o : OutA h r t) : OutA h' r t := by
  obtain ⟨cv, h1, h2, h3⟩ := o; exact ⟨cv, h1, h2, SlAt.le callC_mono hl h3⟩
def zeroRs : Rs := ⟨0, 0, [], List.replicate 64 0, 0, [], []⟩
theorem zeroRs_at {h : H} : OutA h (.agg (outC zeroRs (.slice none 0 0)).toArray) zeroRs := ⟨_, rfl, rfl, SlAt.nil⟩
theorem den_part {F A D : List Value} {E : Nat → CE} {shs : List Sh} {l : List SV} (hf : FitsL shs A) (hl : l = Sh.svs F.length shs) : SV.denL (F ++ A ++ D) E l = A := by
  subst hl
  exact (vals_of (svs_at (E := E) hf) (svs_den (E := E) (G := F) hf).2.1).symm
/-- Nothing that is seen of two outputs differs. -/
def SameO (s t : Rs) : Prop := s.how = t.how ∧ s.value = t.value ∧ s.calls = t.calls ∧ s.mem = t.mem ∧ s.left = t.left
def CallsOk (t : Rs) : Prop := t.calls.length ≤ 100000000 ∧ ∀ c ∈ t.calls, c.2.length ≤ 100000
theorem Runs.calls {bs : List Blk} {R n : Int} {F : Int} {m : Nat} (hok : ∀ x ∈ bs, BlOk R n bs.length x) {b k : Nat} {s t : Rs} (h : Runs bs R b k s t) : (∀ c ∈ s.calls, c.2.length ≤ 100000) → Good m F s → (∀ c ∈ t.calls, c.2.length ≤ 100000) ∧ Good m F t := by
  have st : ∀ {x : Ins} {s : Rs}, PlOk R n x → (∀ c ∈ s.calls, c.2.length ≤ 100000) → ∀ c ∈ (stepM R x s).1.calls, c.2.length ≤ 100000 := by
    intro x s hp h
    have hal := hp.al
    unfold stepM
    split
    · exact h
    · split
      · exact h
      · split
        · exact h
        · split
          · exact h
          · split
            · exact h
            · split
              · split <;> exact h
              · split
                · exact h
                · split
                  · exact h
                  · split
                    · intro c hc
                      rcases List.mem_append.1 hc with q | q
                      · exact h c q
                      · rw [List.mem_singleton] at q; subst q; simp only [List.length_map]; omega
                    · exact h
  have en : ∀ {e : Fin4} {s : Rs}, (endS e s).1.calls = s.calls := by intro e s; unfold endS; split <;> (try rfl); split <;> (try rfl); split <;> rfl
  induction h with
  | stop h1 h2 h3 =>
    intro hc hg
    have hp := (hok _ (List.mem_of_getElem? h1)).ins _ (List.mem_of_getElem? h2)
    have a := st hp hc
    rw [h3] at a
    exact ⟨a, by have := stepM_good (R := R) (x := ‹Ins›) hg; rw [h3] at this; exact this⟩
  | step h1 h2 h3 _ ih =>
    intro hc hg
    have hp := (hok _ (List.mem_of_getElem? h1)).ins _ (List.mem_of_getElem? h2)
    have a := st hp hc
    rw [h3] at a
    exact ih a (by have := stepM_good (R := R) (x := ‹Ins›) hg; rw [h3] at this; exact this)
  | fin h1 h0 h2 =>
    rename_i b' k' s' t' x'
    intro hc hg
    have a := en (e := x'.en) (s := s'); have g := endS_good (e := x'.en) hg
    rw [h2] at a g
    exact ⟨by rw [a]; exact hc, g⟩
  | go h1 h0 h2 _ ih =>
    rename_i b' k' s' t' f' x' c' _
    intro hc hg
    have a := en (e := x'.en) (s := s'); have g := endS_good (e := x'.en) hg
    rw [h2] at a g
    exact ih (by rw [a]; exact hc) g
theorem Runs.ok {bs : List Blk} {R n : Int} {m first : Nat} {args mem ans : List Int} {fuel : Int} {t : Rs} (hok : ∀ x ∈ bs, BlOk R n bs.length x) (h : Runs bs R 0 0 (start m first args mem ans fuel) t) (hf : first + args.length ≤ m) (hfu : 0 ≤ fuel ∧ fuel ≤ 1100000) : CallsOk t := by
  obtain ⟨h1, h2⟩ := h.calls (m := m) (F := 2000000) hok (fun c hc => by cases hc) ⟨places0_len hf, by simp only [start, List.length_nil]; omega⟩
  have := h2.lf
  exact ⟨by omega, h1⟩
def eqs : Nat → Nat → Nat → X
  | 0, i, j => .cmp .eql (.var i) (.var j)
  | k + 1, i, j => .and (.cmp .eql (.var i) (.var j)) (eqs k (i + 1) (j + 1))
theorem eqs_true {G : List Value} : ∀ {k i j : Nat}, (∀ m, m ≤ k → vi (gv G (i + m)) = vi (gv G (j + m))) → vb ((eqs k i j).den G) = true
  | 0, i, j, h => by have := h 0 (by omega); simp only [eqs, X.den, vb_bool, cmp_eql, decide_eq_true_eq]; exact this
  | k + 1, i, j, h => by
    have h0 := h 0 (by omega)
    have ih := eqs_true (G := G) (k := k) (i := i + 1) (j := j + 1) (fun m hm => by have := h (m + 1) (by omega); rw [show i + 1 + m = i + (m + 1) by omega, show j + 1 + m = j + (m + 1) by omega]; exact this)
    simp only [eqs, X.den, vb_bool, cmp_eql, Bool.and_eq_true, decide_eq_true_eq]
    exact ⟨h0, ih⟩
theorem outC_gv {s : Rs} {cv : Value} (hm : s.mem.length = 64) : gv (outC s cv) 0 = .int .i64 s.how ∧ gv (outC s cv) 1 = .int .i64 s.value ∧ gv (outC s cv) 2 = cv ∧ gv (outC s cv) 67 = .int .i64 s.left := by
  refine ⟨rfl, rfl, rfl, ?_⟩
  have h : (s.mem.map (Value.int .i64)).length = 64 := by simp [hm]
  show gv (s.mem.map (Value.int .i64) ++ [.int .i64 s.left]) 64 = _
  exact gv_at (j := 0) (by omega)
theorem outC_mem {s t : Rs} {cu cv : Value} (h : s.mem = t.mem) {i : Nat} (hi : 3 ≤ i) (hi2 : i ≤ 66) (hm : s.mem.length = 64) : gv (outC s cu) i = gv (outC t cv) i := by
  obtain ⟨j, rfl⟩ : ∃ j, i = j + 3 := ⟨i - 3, by omega⟩
  show gv (s.mem.map (Value.int .i64) ++ [.int .i64 s.left]) j = gv (t.mem.map (Value.int .i64) ++ [.int .i64 t.left]) j
  rw [gv_of_lt (by simp [hm]; omega), gv_of_lt (by simp [← h, hm]; omega), h]
theorem out_cond {G : List Value} (h0 : vi (gv G 0) = vi (gv G 68)) (h1 : vi (gv G 1) = vi (gv G 69)) (hm : vb ((eqs 63 3 71).den G) = true) (h2 : vi (gv G 67) = vi (gv G 135)) (hl : vlen (gv G 2) = vlen (gv G 70)) :
    vb ((X.ite (.ite (.ite (.ite (.cmp .neq (.var 0) (.var 68)) (.tt true) (.cmp .neq (.var 1) (.var 69))) (.tt true) (.not (eqs 63 3 71))) (.tt true) (.cmp .neq (.var 67) (.var 135))) (.tt true) (.cmp .neq (.len 2) (.len 70))).den G) = false := by
  generalize eqs 63 3 71 = E at *
  simp [X.den, vb_ite, h0, h1, hm, h2, hl, cmp_neq]
theorem call_cond {G : List Value} (h1 : vi (gv G 137) = vi (gv G 139)) (hl : vlen (gv G 138) = vlen (gv G 140)) : vb ((X.ite (.cmp .neq (.var 137) (.var 139)) (.tt true) (.cmp .neq (.len 138) (.len 140))).den G) = false := by
  simp [X.den, vb_ite, h1, hl, cmp_neq]
theorem s19 {h : H} {u v : Value} {s t : Rs} (hu : OutA h u s) (hv : OutA h v t) (hs : SameO s t) (hc : CallsOk s) : CallsA Try.prog 19 (fun _ => [u, v]) [] h (Ret fun r h' => h' = h ∧ r = .bool true) := by
  obtain ⟨cu, rfl, mu, hcu⟩ := hu
  obtain ⟨cv, rfl, mv, hcv⟩ := hv
  obtain ⟨e1, e2, e3, e4, e5⟩ := hs
  rw [← e3] at hcv
  have fu := outC_fit mu hcu.fit
  have fv := outC_fit mv hcv.fit
  have lu : (outC s cu).length = 68 := outC_len mu
  have lv : (outC t cv).length = 68 := outC_len mv
  obtain ⟨u0, u1, u2, u67⟩ := outC_gv (s := s) (cv := cu) mu
  obtain ⟨v0, v1, v2, v67⟩ := outC_gv (s := t) (cv := cv) mv
  have a0 : gv (outC s cu ++ outC t cv) 0 = .int .i64 s.how := by rw [gv_of_lt (by omega), u0]
  have a1 : gv (outC s cu ++ outC t cv) 1 = .int .i64 s.value := by rw [gv_of_lt (by omega), u1]
  have a2 : gv (outC s cu ++ outC t cv) 2 = cu := by rw [gv_of_lt (by omega), u2]
  have a67 : gv (outC s cu ++ outC t cv) 67 = .int .i64 s.left := by rw [gv_of_lt (by omega), u67]
  have b0 : gv (outC s cu ++ outC t cv) 68 = .int .i64 t.how := by rw [gv_at (j := 0) (by omega), v0]
  have b1 : gv (outC s cu ++ outC t cv) 69 = .int .i64 t.value := by rw [gv_at (j := 1) (by omega), v1]
  have b2 : gv (outC s cu ++ outC t cv) 70 = cv := by rw [gv_at (j := 2) (by omega), v2]
  have b67 : gv (outC s cu ++ outC t cv) 135 = .int .i64 t.left := by rw [gv_at (j := 67) (by omega), v67]
  have bm : ∀ m, m ≤ 63 → gv (outC s cu ++ outC t cv) (3 + m) = gv (outC s cu ++ outC t cv) (71 + m) := fun m hm => by
    rw [gv_of_lt (by omega), gv_at (j := 3 + m) (by omega)]; exact outC_mem e4 (by omega) (by omega) mu
  have hul := hcu.len
  have hvl := hcv.len
  have key : (fun _ : Nat → CE => [Value.agg (outC s cu).toArray, Value.agg (outC t cv).toArray]) = fun e => SV.denL (outC s cu ++ outC t cv) (fun k => e (k - 1000000)) [.agg (Sh.svs 0 outSh), .agg (Sh.svs 68 outSh)] := by
    funext e
    have d1 := den_part (F := []) (D := outC t cv) (E := fun k => e (k - 1000000)) fu rfl
    have d2 := den_part (F := outC s cu) (D := []) (E := fun k => e (k - 1000000)) fv rfl
    rw [lu, List.append_nil] at d2
    simp only [SV.denL, SV.den]
    rw [d2]
    rw [List.nil_append] at d1
    exact congrArg (fun z => [Value.agg z.toArray, Value.agg (outC t cv).toArray]) d1.symm
  rw [key]
  refine c19 (G := outC s cu ++ outC t cv) ?_ ?_
  · exact FitsL.append fu fv
  refine iteF (out_cond (by rw [a0, b0, e1]) (by rw [a1, b1, e2]) (eqs_true fun m hm => by rw [bm m hm]) (by rw [a67, b67, e5]) (by rw [a2, b2, hul, hvl])) ?_
  have hG : (outC s cu ++ outC t cv).length = 136 := by rw [List.length_append, lu, lv]
  generalize outC s cu ++ outC t cv = G at *
  refine h_range (n := s.calls.length) (fun i h' => h' = h) (by rw [a2]; exact hul) (by omega) hG (by have := hc.1; omega) rfl ?_ ?_
  · rintro i h' J hi rfl hJ
    have hx : s.calls[i]? = some s.calls[i] := List.getElem?_eq_getElem hi
    have hxm : s.calls[i] ∈ s.calls := List.getElem_mem _
    generalize s.calls[i] = x at hx hxm
    have hxl := hc.2 x hxm
    obtain ⟨_, ⟨q1, rfl, hq1⟩, hr1⟩ := hcu.get i x hx
    obtain ⟨_, ⟨q2, rfl, hq2⟩, hr2⟩ := hcv.get i x hx
    have l1 := hq1.len
    have l2 := hq2.len
    have f2 : ∀ D : List Value, gv (G ++ D) 2 = cu := fun D => by rw [gv_of_lt (by omega), a2]
    have f70 : ∀ D : List Value, gv (G ++ D) 70 = cv := fun D => by rw [gv_of_lt (by omega), b2]
    have r1 : ∀ D : List Value, Reads h' ((PE.idx (.var 2) (.var 136) 2).den (G ++ (.int .i64 (i : Int) :: D))) [.int .i64 x.1, q1] := fun D => by
      simp only [PE.den, X.den, f2, gv_at (G := G) (D := .int .i64 (i : Int) :: D) (i := 136) (j := 0) (by omega), gv_zero, vi_int, Int.toNat_natCast]; exact hr1
    have r2 : ∀ D : List Value, Reads h' ((PE.idx (.var 70) (.var 136) 2).den (G ++ (.int .i64 (i : Int) :: D))) [.int .i64 x.1, q2] := fun D => by
      simp only [PE.den, X.den, f70, gv_at (G := G) (D := .int .i64 (i : Int) :: D) (i := 136) (j := 0) (by omega), gv_zero, vi_int, Int.toNat_natCast]; exact hr2
    have nd : ∀ D : List Value, needs (G ++ (.int .i64 (i : Int) :: D)) [(.cmp .geq (.var 136) (.lit 0)), (.cmp .lss (.var 136) (.len 70))] := fun D => by
      refine needI (x := (i : Int)) (n := s.calls.length) ?_ ?_ ⟨by omega, by omega⟩
      · rw [gv_at (j := 0) (by omega)]; rfl
      · rw [f70]; exact hvl
    have g4 : ∀ (D : List Value) (m : Nat), gv (G ++ ([.int .i64 (i : Int), .int .i64 x.1, q1, .int .i64 x.1, q2] ++ D)) (136 + m) = gv ([.int .i64 (i : Int), .int .i64 x.1, q1, .int .i64 x.1, q2] ++ D) m := fun D m => gv_at (by omega)
    refine h_load [.int .i64 x.1, q1] ⟨⟨_, rfl⟩, hq1.fit, trivial⟩ (fun _ => r1 []) ⟨fun _ => by have := nd [.int .i64 x.1, q1]; simpa [List.append_assoc] using this, h_load [.int .i64 x.1, q2] ⟨⟨_, rfl⟩, hq2.fit, trivial⟩ (fun _ => by have := r2 [.int .i64 x.1, q1]; simpa [List.append_assoc] using this) ?_⟩
    have eG : G ++ [.int .i64 (i : Int)] ++ [.int .i64 x.1, q1] ++ [.int .i64 x.1, q2] = G ++ [.int .i64 (i : Int), .int .i64 x.1, q1, .int .i64 x.1, q2] := by simp [List.append_assoc]
    rw [eG]
    have g1' : ∀ m, gv (G ++ [.int .i64 (i : Int), .int .i64 x.1, q1, .int .i64 x.1, q2]) (136 + m) = gv [.int .i64 (i : Int), .int .i64 x.1, q1, .int .i64 x.1, q2] m := fun m => gv_at (by omega)
    have s1 : SV.denL (G ++ [.int .i64 (i : Int), .int .i64 x.1, q1, .int .i64 x.1, q2]) dE [(.int .i64 (.var 137)), (.val 138)] = [.int .i64 x.1, q1] := by
      simp only [SV.denL, SV.den, X.den]
      rw [g1' 1, g1' 2]; rfl
    have s2 : SV.denL (G ++ [.int .i64 (i : Int), .int .i64 x.1, q1, .int .i64 x.1, q2]) dE [(.int .i64 (.var 139)), (.val 140)] = [.int .i64 x.1, q2] := by
      simp only [SV.denL, SV.den, X.den]
      rw [g1' 3, g1' 4]; rfl
    have t1 : Reads h' ((PE.idx (.var 2) (.var 136) 2).den (G ++ [.int .i64 (i : Int), .int .i64 x.1, q1, .int .i64 x.1, q2])) (SV.denL (G ++ [.int .i64 (i : Int), .int .i64 x.1, q1, .int .i64 x.1, q2]) dE [(.int .i64 (.var 137)), (.val 138)]) := by rw [s1]; exact r1 _
    have t2 : Reads h' ((PE.idx (.var 70) (.var 136) 2).den (G ++ [.int .i64 (i : Int), .int .i64 x.1, q1, .int .i64 x.1, q2])) (SV.denL (G ++ [.int .i64 (i : Int), .int .i64 x.1, q1, .int .i64 x.1, q2]) dE [(.int .i64 (.var 139)), (.val 140)]) := by rw [s2]; exact r2 _
    have cnd : vb ((X.ite (.cmp .neq (.var 137) (.var 139)) (.tt true) (.cmp .neq (.len 138) (.len 140))).den (G ++ [.int .i64 (i : Int), .int .i64 x.1, q1, .int .i64 x.1, q2])) = false := by
      refine call_cond ?_ ?_
      · rw [g1' 1, g1' 3]; rfl
      · rw [g1' 2, g1' 4]; show vlen q1 = vlen q2; rw [l1, l2]
    have inner : holds Try.prog (Ret fun r h'' => h'' = h' ∧ r = .bool true) (.loop 1 [(.int .i64 (.lit 0))] [.int .i64] 
       (.ite (.cmp .lss (.var 141) (.len 138))
        (.need (.tt true) [(.cmp .geq (.var 141) (.lit 0)), (.cmp .lss (.var 141) (.len 138))] 
        (.load (.tt true) (.idx (.var 138) (.var 141) 1) [.int .i64] 
        (.need (.tt true) [(.cmp .geq (.var 141) (.lit 0)), (.cmp .lss (.var 141) (.len 140))] 
        (.load (.tt true) (.idx (.var 140) (.var 141) 1) [.int .i64] 
        (.ite (.cmp .neq (.var 142) (.var 143))
         (.done (.bool (.tt false)) [])
         (.again 1 [(.int .i64 (.op .add .i64 (.var 141) (.lit 1)))]))))))
        (.again 0 [(.int .i64 (.op .add .i64 (.var 136) (.lit 1)))]))) (G ++ [.int .i64 (i : Int), .int .i64 x.1, q1, .int .i64 x.1, q2]) [J] h' := by
      have hG2 : (G ++ [.int .i64 (i : Int), .int .i64 x.1, q1, .int .i64 x.1, q2]).length = 141 := by simp [hG]
      refine h_range (n := x.2.length) (fun k h'' => h'' = h') (by rw [g1' 2]; exact l1) (by omega) hG2 (by omega) rfl ?_ ?_
      · rintro k h'' J2 hk rfl hJ2
        have hz : x.2[k]? = some x.2[k] := List.getElem?_eq_getElem hk
        generalize x.2[k] = z at hz
        have g2' : ∀ (D : List Value) m, gv (G ++ [.int .i64 (i : Int), .int .i64 x.1, q1, .int .i64 x.1, q2] ++ [.int .i64 (k : Int)] ++ D) (136 + m) = gv ([.int .i64 (i : Int), .int .i64 x.1, q1, .int .i64 x.1, q2, .int .i64 (k : Int)] ++ D) m := fun D m => by
          rw [List.append_assoc, List.append_assoc]; exact gv_at (by omega)
        have gk := g2' [] 5
        have g138 := g2' [] 2
        have g140' := g2' [.int .i64 z] 4
        have gk' := g2' [.int .i64 z] 5
        have gz1 := g2' ([.int .i64 z] ++ [.int .i64 z]) 6
        have gz2 := g2' ([.int .i64 z] ++ [.int .i64 z]) 7
        have gk2 := g2' ([.int .i64 z] ++ [.int .i64 z]) 5
        simp only [List.append_nil] at gk g138
        rw [← List.append_assoc] at gz1 gz2 gk2
        refine h_load [.int .i64 z] ⟨⟨_, rfl⟩, trivial⟩ (fun _ => ?_) ⟨fun _ => needI (x := (k : Int)) (n := x.2.length) gk' (by rw [g140']; exact l2) ⟨by omega, by omega⟩, h_load [.int .i64 z] ⟨⟨_, rfl⟩, trivial⟩ (fun _ => ?_) ?_⟩
        · simp only [PE.den, X.den, gk, g138]; exact hq1.read hz
        · simp only [PE.den, X.den, gk', g140']; exact hq2.read hz
        refine iteF ?_ ?_
        · simp only [X.den, gz1, gz2]; show cmpOp .neq z z = false; rw [cmp_neq]; simp
        · show J2 _ _
          simp only [SV.denL, SV.den, X.den, gk2]
          exact hJ2 _ rfl
      · rintro h'' J2 rfl
        show J _ _
        have gi : gv (G ++ [.int .i64 (i : Int), .int .i64 x.1, q1, .int .i64 x.1, q2] ++ [.int .i64 (x.2.length : Int)]) 136 = .int .i64 (i : Int) := by rw [List.append_assoc, gv_at (j := 0) (by omega)]; rfl
        simp only [SV.denL, SV.den, X.den, gi]
        exact hJ _ rfl
    exact ⟨⟨fun _ => t2, fun _ => t1, fun _ => t2, fun _ => t1, fun _ => t2, iteF cnd inner⟩, ⟨fun _ => t2, fun _ => t1, fun _ => t2, fun _ => t1, fun _ => t2, iteF cnd inner⟩⟩
  · rintro h' J rfl
    exact ⟨rfl, rfl, rfl⟩
end Go.Proofs.Ytodeffobplpcnaa
