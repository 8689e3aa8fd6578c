/-
  The law ExecPlain answers true. Conditions: none.
-/
import Derived.Test.YtodeffobplpcnaaR2Q
import Derived.Test.YtodeffobplpcnaaPc
import Derived.Test.YtodeffobplpcnaaRows
set_option linter.unusedVariables false
set_option linter.unusedSimpArgs false
namespace Go.Proofs.Ytodeffobplpcnaa
open Go Go.ChangeShapes Go.WideShapes Go.ChangeAt Go.RowKit

/-! ### The plain law -/
def fills (P : Nat) : List Ins := (List.range P).map fun p : Nat => spillI 8 (p : Int) (p : Int)
theorem fills_succ (P : Nat) : fills (P + 1) = fills P ++ [spillI 8 (P : Int) (P : Int)] := by simp [fills, List.range_succ]
theorem fills_len (P : Nat) : (fills P).length = P := by simp [fills]
theorem stepsL_snoc {R : Int} {l : List Ins} {y : Ins} {s t f : Rs} (h : StepsL R l s t) (h2 : stepM R y t = (f, true)) : StepsL R (l ++ [y]) s f := by
  induction h with
  | nil => exact .cons h2 .nil
  | cons h1 _ ih => exact .cons h1 (ih h2)
theorem fill_steps {N P : Nat} {args mem ans : List Int} {fuel : Int} (hP : args.length = P) (hPN : P ≤ N) : ∀ j : Nat, j ≤ P → StepsL N (fills j) (start (N + P) N args mem ans fuel) { start (N + P) N args mem ans fuel with places := args.take j ++ List.replicate (N - j) 0 ++ args }
  | 0, _ => by
    have : ({ start (N + P) N args mem ans fuel with places := args.take 0 ++ List.replicate (N - 0) 0 ++ args } : Rs) = start (N + P) N args mem ans fuel := by
      unfold start places0
      simp only [List.take_zero, List.nil_append, Nat.sub_zero]
      rw [show N + P - N - args.length = 0 by omega]; simp
    rw [this]; exact .nil
  | j + 1, h => by
    rw [fills_succ]
    refine stepsL_snoc (fill_steps hP hPN j (by omega)) ?_
    rw [stepM_8 (show (spillI 8 (j : Int) (j : Int)).kind = 8 from rfl)]
    have hg : getP { start (N + P) N args mem ans fuel with places := args.take j ++ List.replicate (N - j) 0 ++ args } ((N : Int) + (j : Int)) = args.getD j 0 := by
      show (args.take j ++ List.replicate (N - j) 0 ++ args).getD ((N : Int) + (j : Int)).toNat 0 = _
      rw [show ((N : Int) + (j : Int)).toNat = N + j by omega, List.getD_eq_getElem?_getD, List.getElem?_append_right (by simp; omega)]
      have : N + j - (args.take j ++ List.replicate (N - j) 0).length = j := by simp; omega
      rw [this, List.getD_eq_getElem?_getD]
    show (setP _ (j : Int) (getP _ ((N : Int) + (j : Int))), true) = _
    rw [hg]
    refine Prod.ext ?_ rfl
    unfold setP
    simp only
    congr 1
    have hjl : j < args.length := by omega
    rw [show (j : Int).toNat = j by omega, List.append_assoc, List.set_append_right _ _ (by rw [List.length_take]; omega), List.length_take, Nat.min_eq_left (by omega), Nat.sub_self]
    rw [show N - j = (N - (j + 1)) + 1 by omega, List.replicate_succ, List.cons_append, List.set_cons_zero]
    rw [List.take_succ_eq_append_getElem hjl, List.getD_eq_getElem?_getD, List.getElem?_eq_getElem hjl]
    simp only [List.append_assoc, List.singleton_append, Option.getD_some, List.cons_append, List.nil_append]
theorem plain_run {P V N : Nat} {B : List Blk} {x : Blk} {args mem ans : List Int} {fuel : Int} {t t2 : Rs} (hx : B[0]? = some x) (hok : ∀ z ∈ B, BlOk (V : Int) ((V + 0 : Nat) : Int) B.length z) (hk : ∀ z ∈ B, ∀ y ∈ z.ins, y.kind ≠ 7 ∧ y.kind ≠ 8)
    (hno : ∀ z ∈ B, ¬ (z.en.kind ≠ 3 ∧ (z.en.to = 0 ∨ (z.en.kind = 2 ∧ z.en.el = 0)))) (hal : args.length = P) (hPV : P ≤ V) (hVN : V ≤ N)
    (h : Runs B V 0 0 (start V 0 args mem ans fuel) t) (h2 : Runs (B.set 0 (insB x 0 (fills P))) N 0 0 (start (N + P) N args mem ans fuel) t2) : SameO t2 t := by
  have hlen : (start V 0 args mem ans fuel).places.length = V := places0_len (by omega)
  obtain ⟨w, hw⟩ : ∃ w, w = List.replicate (N - V) (0 : Int) ++ args := ⟨_, rfl⟩
  have e0 : extS (start V 0 args mem ans fuel) w = { start (N + P) N args mem ans fuel with places := args.take P ++ List.replicate (N - P) 0 ++ args } := by
    unfold extS start
    simp only
    congr 1
    unfold places0
    rw [hw, List.take_of_length_le (by omega)]
    simp only [List.replicate_zero, List.nil_append, Nat.sub_zero, ← hal]
    rw [← List.append_assoc, List.append_assoc args, List.replicate_append_replicate, show V - args.length + (N - V) = N - args.length by omega]
  have A := Runs.ins (Rel := RelX V w.length) (R' := (N : Int)) (ys := fills P) (i := 0) (at_ := 0) hx (Nat.zero_le _)
    (fun {z y s s'} hz hy hr => RelX.step (by have := (hok z hz).ins y hy; simpa using this) (.inr (hk z hz y hy)) hr)
    (fun {z s s'} hz hr => RelX.fin (by have := (hok z hz).en.1; simpa using this) (hok z hz).kd hr)
    (fun hre => by
      exfalso
      rcases hre with q | ⟨z, hz, s, t, he⟩
      · omega
      · obtain ⟨-, -, k1, k2⟩ := endS_left he
        refine hno z hz ⟨k2, ?_⟩
        rcases k1 with e | ⟨e, k⟩
        · exact .inl (by simpa using e.symm)
        · exact .inr ⟨k, by simpa using e.symm⟩)
    h (s' := extS (start V 0 args mem ans fuel) w) ⟨hlen, w, rfl, rfl⟩
  obtain ⟨t', ⟨-, w', -, rfl⟩, h4⟩ := A
  have hil := (List.getElem?_eq_some_iff.1 hx).1
  have hph : phi 0 0 (fills P).length 0 0 = 0 + (fills P).length := by unfold phi; rw [if_pos ⟨rfl, Nat.le_refl _⟩]
  rw [hph, e0] at h4
  have h5 := Runs.chain (bs := B.set 0 (insB x 0 (fills P))) (x := insB x 0 (fills P)) (C := x.ins.drop 0) (by rw [List.getElem?_set_self hil]) (A := []) (ys := fills P) rfl (fill_steps (mem := mem) (ans := ans) (fuel := fuel) hal (by omega) P (Nat.le_refl _)) h4
  have := h5.same h2
  subst this
  exact ⟨rfl, rfl, rfl, rfl, rfl⟩
theorem ofM_le {x : Ins} {n m : Int} (h : ofM x n = 0) (hnm : n ≤ m) : ofM x m = 0 := by
  unfold ofM at h ⊢
  split at h
  · cases h
  · rename_i h1
    rw [if_neg h1]
    split at h
    · cases h
    · rename_i h2
      rw [if_neg h2]
      split at h
      · rename_i h3
        rw [if_pos]
        rw [List.all_eq_true] at h3 ⊢
        intro z hz
        have := h3 z hz
        simp only [inR, decide_eq_true_eq] at this ⊢
        omega
      · cases h
theorem ofM_kinds {x : Ins} {n : Int} (h : ofM x n = 0) : 1 ≤ x.kind ∧ x.kind ≤ 6 := by
  unfold ofM at h
  split at h
  · cases h
  · rename_i h1; grind
theorem endM_le {e : Fin4} {n m N : Int} (h : endM e n N 21 = 0) (hnm : n ≤ m) : endM e m N 21 = 0 := by
  unfold endM at h ⊢
  grind (splits := 40)
theorem blk_cells {h : H} {cs : List Value} {x : Blk} {fp : List Nat} (K : BlkF h cs x fp) : ∀ v ∈ cs, v.oneCell' = true := by
  obtain ⟨u, rfl, hu⟩ := K
  obtain ⟨L, fr, _, _, h4, _⟩ := hu
  obtain ⟨a, n, c, rfl, -, -⟩ := h4.row0.fit
  intro v hv
  simp only [endC, List.mem_cons, List.not_mem_nil, or_false] at hv
  rcases hv with rfl | rfl | rfl | rfl | rfl <;> rfl
theorem cells_blk {h : H} {L : List (El Blk)} (K : EltsF 5 BlkF h L) : ∀ v ∈ cellsE L, v.oneCell' = true := fun v hv => by
  obtain ⟨t, ht, hv⟩ := List.mem_flatMap.1 hv
  exact blk_cells (K t ht).2 v hv
theorem back_cond {G : List Value} {e : Fin4} {i j k : Nat} (e1 : gv G i = .int .u8 e.kind) (e2 : gv G j = .int .i64 e.to) (e3 : gv G k = .int .i64 e.el) :
    vb ((X.ite (.cmp .neq (.var i) (.lit 3)) (.ite (.cmp .eql (.var j) (.lit 0)) (.tt true) (.ite (.cmp .eql (.var i) (.lit 2)) (.cmp .eql (.var k) (.lit 0)) (.tt false))) (.tt false)).den G) = decide (e.kind ≠ 3 ∧ (e.to = 0 ∨ (e.kind = 2 ∧ e.el = 0))) := by
  simp only [X.den, e1, e2, e3, vb_ite, vi_int, vb_bool, cmp_neq, cmp_eql]
  by_cases a : e.kind = 3 <;> by_cases b : e.to = 0 <;> by_cases c : e.kind = 2 <;> by_cases d : e.el = 0 <;> simp_all
theorem max_val {G : List Value} {V : Nat} (e : gv G 10 = .int .i64 (V : Int)) : vi ((X.ite (.cmp .gtr (.lit 3) (.var 10)) (.lit 3) (.var 10)).den G) = ((max V 3 : Nat) : Int) := by
  simp only [X.den, e, vi_ite, vi_int, vb_bool, cmp_gtr, decide_eq_true_eq]
  split <;> omega
set_option maxRecDepth 20000 in
theorem s14 {h : H} {vs av mv nv : Value} {p0 p1 p2 fuel : Int} {l args mem ans : List Int} (hs : BytesAt h vs l) (h0 : 0 ≤ p0) (h1 : 0 ≤ p1) (h2 : 0 ≤ p2) (ha : IntsAt h av args) (hm : IntsAt h mv mem) (hn : IntsAt h nv ans) :
    CallsA Try.prog 14 (fun _ => [.agg #[.int .u8 p0, .int .u8 p1, .int .u8 p2, vs], .agg #[av, mv, nv, .int .i64 fuel]]) [] h (Ret fun r h' => h.le h' ∧ r = .bool true) := by
  refine c14 (G := [.int .u8 p0, .int .u8 p1, .int .u8 p2, vs, av, mv, nv, .int .i64 fuel]) ⟨⟨_, rfl⟩, ⟨_, rfl⟩, ⟨_, rfl⟩, hs.fit, ha.fit, hm.fit, hn.fit, ⟨_, rfl⟩, trivial⟩ ?_
  refine h_call0 s29 ?_
  rintro _ g1 ⟨hl1, rfl⟩
  have h14 : 0 ≤ intOp .rem .u8 p1 4 := by
    simp only [intOp]
    have := tmod_range (a := p1) (n := 4) h1 (by omega)
    exact this.1
  refine ⟨[.bool true], ⟨⟨_, rfl⟩, trivial⟩, rfl, h_ite (fun hc => by cases hc) (fun _ => h_call0 (s16 (p0 := p0) (p1 := intOp .rem .u8 p1 4) (p2 := p2) (hs.le hl1) h0 h14 h2) ?_)⟩
  generalize intOp .rem .u8 p1 4 = p1' at h14
  rintro _ g2 ⟨hk2, u, fp, rfl, hu, hfu, hnd⟩
  have hl2 := hl1.trans hk2.le_nil
  have F := made_fun h0 h14 h2 hs.inB
  refine ⟨[.int .i64 (madeP p0), .int .i64 (madeV p0 p1'), u], ⟨⟨_, rfl⟩, ⟨_, rfl⟩, hu.at.fit, trivial⟩, rfl, ?_⟩
  obtain ⟨P, V, hP, hV, hPl, hVl, hPV, hck, hok, hb1, hb2⟩ := F
  rw [hP, hV]
  simp only [List.cons_append, List.nil_append]
  refine h_ite (fun _ => ⟨rfl, hl2, rfl⟩) (fun hV8 => ?_)
  replace hV8 : cmpOp .gtr (V : Int) 8 = false := hV8
  rw [cmp_gtr, decide_eq_false_iff_not] at hV8
  obtain ⟨B, hB⟩ : ∃ B, B = madeB p0 p1' p2 l := ⟨_, rfl⟩
  rw [← hB] at hu hck hok hb1 hb2
  obtain ⟨-, -, hpart⟩ := checkM_zeroR (p := P) (n := V) (bs := B) (by rw [hck])
  have hul := hu.len (by omega)
  have hBA := hu.at
  refine h_range (n := B.length) (fun i h' => h' = g2 ∧ ∀ z ∈ B.take i, ¬ (z.en.kind ≠ 3 ∧ (z.en.to = 0 ∨ (z.en.kind = 2 ∧ z.en.el = 0)))) (G := [.int .u8 p0, .int .u8 p1, .int .u8 p2, vs, av, mv, nv, .int .i64 fuel, .bool true, .int .i64 (P : Int), .int .i64 (V : Int), u]) (j := 11) (k := 12) hul (by omega) rfl (by omega) ⟨rfl, fun z hz => by simp at hz⟩ ?_ ?_
  · rintro i h' J hi ⟨rfl, hno⟩ hJ
    have hx : B[i]? = some B[i] := List.getElem?_eq_getElem hi
    generalize hxe : B[i] = x at hx
    obtain ⟨_, ⟨w, rfl, hw⟩, hr⟩ := hBA.get i x hx
    refine h_load (w :: endC x.en) ⟨hw.fit, endFit x.en⟩ (fun _ => hr) ?_
    simp only [List.cons_append, List.nil_append, endC]
    refine h_ite (fun _ => ⟨rfl, hl2, rfl⟩) (fun hc => ?_)
    replace hc := (back_cond (e := x.en) (i := 14) (j := 16) (k := 17) rfl rfl rfl).symm.trans hc
    rw [decide_eq_false_iff_not] at hc
    show J _ _
    refine hJ _ ⟨rfl, fun z hz => ?_⟩
    rw [List.take_succ_eq_append_getElem hi, hxe] at hz
    rcases List.mem_append.1 hz with q | q
    · exact hno z q
    · rw [List.mem_singleton] at q; subst q; exact hc
  rintro g2 J0 ⟨rfl, hno⟩
  rw [List.take_length] at hno
  simp only [List.cons_append, List.nil_append]
  refine h_loop (fun xs h' => ∃ (q : Nat) (v : Value) (f : List Nat), xs = [v, .int .i64 (q : Int)] ∧ q ≤ P ∧ KeptH g2 h' [] ∧ RowF h' 71 7 v (ysC (fills q)) f ∧ Fresh g2 f) (fun xs h' => P - (vi (gv xs 1)).toNat) ⟨0, .slice none 0 0, [], rfl, Nat.zero_le _, KeptH.refl _ _, .inl ⟨rfl, rfl, rfl⟩, (fun c hc => by cases hc)⟩ ?_
  rintro xs g3 J - ⟨q, v, f13, rfl, hq, hk3, hrow, hf13⟩ hJ
  simp only [List.cons_append, List.nil_append]
  have hvl : vlen v = q := by
    have := hrow.row0.len
    rw [ysC_len, fills_len] at this; omega
  refine h_ite (fun hc => ?_) (fun hc => ?_)
  · replace hc : cmpOp .lss (q : Int) (P : Int) = true := hc
    rw [cmp_lss, decide_eq_true_eq] at hc
    refine ⟨insC (spillI 8 (q : Int) (q : Int)) (.slice none 0 0), 1, ⟨rfl, rfl⟩, ?_⟩
    refine app_rowF hrow rfl zero46' (by show (vlen v + 1) * 64 ≤ _; omega) fun v' g4 f' r1 r2 r3 r4 => ?_
    show J _ _
    have e5 : intOp .add .i64 (q : Int) 1 = ((q + 1 : Nat) : Int) := int_add_one (n := P) (by omega) (by omega)
    refine hJ _ _ ⟨q + 1, v', f', ?_, by omega, hk3.trans_nil r3 hf13, ?_, ?_⟩ ?_
    · show [v', Value.int .i64 (intOp .add .i64 (q : Int) 1)] = _
      rw [e5]
    · rw [fills_succ]
      have : ysC (fills q ++ [spillI 8 (q : Int) (q : Int)]) = ysC (fills q) ++ insC (spillI 8 (q : Int) (q : Int)) (.slice none 0 0) := by simp [ysC]
      rw [this]; exact r1
    · rcases r4 with rfl | ⟨c, rfl, hc'⟩
      · exact hf13
      · intro d hd; rw [List.mem_singleton] at hd; subst hd; exact H.le_none hk3.le_nil hc'
    · show P - (vi (Value.int .i64 (intOp .add .i64 (q : Int) 1))).toNat < P - (vi (Value.int .i64 (q : Int))).toNat
      rw [e5]; simp only [vi_int]; omega
  replace hc : cmpOp .lss (q : Int) (P : Int) = false := hc
  rw [cmp_lss, decide_eq_false_iff_not] at hc
  have hqP : q = P := by omega
  rw [hqP] at hrow hvl ⊢
  refine h_alloc [] rfl fun b hbn => ?_
  have hl34 := H.le_put (o := .cells ([] : List Value).toArray 66 (0, 0)) hbn
  have hk34 : KeptH g3 (g3.put b (.cells ([] : List Value).toArray 66 (0, 0))) [] := KeptH.put hbn _
  have hrow15 : RowF (g3.put b (.cells ([] : List Value).toArray 66 (0, 0))) 66 5 (.slice (some ⟨b, 0, none⟩) 0 0) [] [b] := RowF.new (r := []) (c := 0) rfl rfl (Nat.le_refl _)
  have hf15 : Fresh g3 [b] := fun c hc => by rw [List.mem_singleton] at hc; subst hc; exact hbn
  obtain ⟨L, fr, hlist, hfp, hrowu, helts⟩ := hu
  have hLl : L.length = B.length := by rw [hlist, List.length_map]
  have hcl : (cellsE L).length = B.length * 5 := by rw [cellsE_length helts, hLl]
  refine ⟨cellsE L, B.length, src_ok (v := u) rfl (SlSrc.le (hk3.le_nil.trans hl34) (by have := src_all hrowu; rw [hul] at this; exact this)) hcl (cells_blk helts), ?_⟩
  refine app_rowF hrow15 hcl zero41 (by show (0 + B.length) * 56 ≤ _; omega) fun v16 g5 f16 m1 m2 m3 m4 => ?_
  have hv16 : vlen v16 = B.length := by rw [m2]; show 0 + B.length = _; omega
  have hk35 := KeptH.trans_nil hk34 m3 hf15
  have hk25 := hk3.trans hk35
  have hf16 : Fresh g3 f16 := by
    rcases m4 with rfl | ⟨c, rfl, hc'⟩
    · exact hf15
    · intro d hd; rw [List.mem_singleton] at hd; subst hd; exact H.le_none hl34 hc'
  have hf16n : f16.Nodup := by rcases m4 with rfl | ⟨c, rfl, _⟩ <;> simp
  have hliv := helts.live blkF_good
  have helts5 : EltsF 5 BlkF g5 L := helts.agree blkF_good (hk25.agree hliv fun b _ => by simp)
  have hrow13 : RowF g5 71 7 v (ysC (fills P)) f13 := hrow.agree (hk35.agree hrow.live fun b _ => by simp)
  rw [List.nil_append] at m1
  obtain ⟨t0, Lr, rfl⟩ : ∃ t0 Lr, L = t0 :: Lr := by
    cases L with
    | nil => simp at hLl; omega
    | cons a b => exact ⟨a, b, rfl⟩
  have hx : B[0]? = some t0.x := by rw [hlist]; rfl
  have hxm : t0.x ∈ B := by rw [hlist]; simp
  have K5 : Lens 66 5 BlkF g5 v16 B (f16 ++ fpE (t0 :: Lr)) 0 t0.x t0.cs t0.fp [] Lr f16 := by
    refine ⟨by rw [hlist]; rfl, ?_, rfl, ?_, (helts5 t0 (by simp)).1, (helts5 t0 (by simp)).2, (fun t ht => by cases ht), fun t ht => helts5 t (by simp [ht])⟩
    · rw [fpE_cons]; rfl
    · have : cellsE ([] : List (El Blk)) ++ t0.cs ++ cellsE Lr = cellsE (t0 :: Lr) := by rw [cellsE_cons]; rfl
      rw [this]; exact m1
  obtain ⟨w, ecs, hw⟩ := K5.rep
  have hwl := hw.len (by omega)
  have hwfit := (SlF.at (sz := 7) (Rep := InsC) (Nat.zero_lt_succ 6) insF_at hw).fit
  have hwr : Reads g5 (((vaddr v16).add (0 * 5)).add 0) [w] := by rw [add_add]; exact K5.reads fun j u hj => by obtain ⟨rfl, rfl⟩ := get_one hj; rw [ecs]; rfl
  have n1 : cmpOp .lss 0 ((vlen v16 : Nat) : Int) = true := by rw [hv16, cmp_lss, decide_eq_true_eq]; omega
  simp only [List.cons_append, List.nil_append]
  refine ⟨fun _ => ⟨rfl, n1, trivial⟩, h_load [w] ⟨hwfit, trivial⟩ (fun _ => hwr) ?_⟩
  have hxl := (hpart t0.x hxm).1
  obtain ⟨Lw, frw, hins, hf, hroww, heltsw⟩ := hw
  have hLwl : Lw.length = t0.x.ins.length := by rw [hins, List.length_map]
  have hcw : (cellsE Lw).length = t0.x.ins.length * 7 := by rw [cellsE_length heltsw, hLwl]
  refine ⟨cellsE Lw, t0.x.ins.length, src_ok (v := w) rfl (by have := src_all hroww; rw [hwl] at this; exact this) hcw (cells_all heltsw), ?_⟩
  refine app_rowF hrow13 hcw zero46' (by show (vlen v + t0.x.ins.length) * 64 ≤ _; omega) fun v18 g6 f18 o1 o2 o3 o4 => ?_
  have dis : ∀ b ∈ f16 ++ fpE (t0 :: Lr), b ∉ f13 := fun b hb hb' => by
    rcases List.mem_append.1 hb with r | r
    · have h1 := hf16 b r
      have h2 := hrow.live b hb'
      rw [h1] at h2; cases h2
    · have h1 := hf13 b hb'
      have h2 := hliv b r
      rw [h1] at h2; cases h2
  have liv5 : Live g5 (f16 ++ fpE (t0 :: Lr)) := fun b hb => by
    rcases List.mem_append.1 hb with r | r
    · exact m1.live b r
    · exact helts5.live blkF_good b r
  have K6 := K5.agree blkF_good (o3.agree liv5 dis)
  have hnE : (fpE (t0 :: Lr)).Nodup := by rw [hfp] at hnd; exact (List.nodup_append.1 hnd).2.1
  have d16 : ∀ b ∈ f16, b ∉ fpE (t0 :: Lr) := fun b hb hb' => by
    have h1 := H.le_none hk3.le_nil (hf16 b hb)
    have h2 := hliv b hb'
    rw [h1] at h2; cases h2
  have nd5 : (f16 ++ fpE (t0 :: Lr)).Nodup := nodup_app hf16n hnE d16
  obtain ⟨z1, z2, z3⟩ := K6.upd blkF_good nd5 (KeptH.refl g6 _) (o := 0) (N := [v18]) (A := []) (B := [w]) (C := endC t0.x.en) ecs rfl rfl (by simp)
  refine ⟨fun _ => ⟨rfl, n1, trivial⟩, h_store ((vaddr v16).add (0 * 5 + 0)) [v18] (by rw [← add_add]; rfl) rfl z1 ?_⟩
  have hl26 : g2.le g6 := o3.le hk25.le_nil hf13
  have k67 : KeptH g6 (g6.sets ((vaddr v16).add (0 * 5 + 0)) [v18]) f16 := fun b hb _ => z2 b hb
  have hl27 := k67.le hl26 (fun b hb => H.le_none hk3.le_nil (hf16 b hb))
  have inE : ∀ b ∈ fpE Lw, b ∈ fpE (t0 :: Lr) := fun b hb => by rw [fpE_cons]; exact List.mem_append_left _ (by rw [hf]; exact List.mem_append_right _ hb)
  have a67 : ∀ b ∈ f18 ++ fpE Lw, (g6.sets ((vaddr v16).add (0 * 5 + 0)) [v18]) b = g6 b := fun b hb => by
    refine z2 b fun hb' => ?_
    rcases List.mem_append.1 hb with r | r
    · rcases o4 with rfl | ⟨c, rfl, hc'⟩
      · exact dis b (List.mem_append_left _ hb') r
      · rw [List.mem_singleton] at r; subst r
        have := liv5 b (List.mem_append_left _ hb'); rw [hc'] at this; cases this
    · exact d16 b hb' (inE b r)
  have hSl : SlF 71 7 InsF (g6.sets ((vaddr v16).add (0 * 5 + 0)) [v18]) v18 (fills P ++ t0.x.ins) (f18 ++ fpE Lw) := by
    refine ⟨ysE (fills P) ++ Lw, f18, by rw [List.map_append, ysE_x, hins], by rw [fpE_append, ysE_fp, List.nil_append], ?_, fun t ht => ?_⟩
    · rw [cellsE_append, ysE_cells]
      exact o1.agree fun b hb => a67 b (List.mem_append_left _ hb)
    · rcases List.mem_append.1 ht with r | r
      · obtain ⟨y, hym, rfl⟩ := List.mem_map.1 r
        obtain ⟨p', -, rfl⟩ := List.mem_map.1 hym
        exact ⟨rfl, _, rfl, .inl ⟨rfl, rfl, rfl⟩⟩
      · have e6 : EltsF 7 InsF g6 Lw := heltsw.agree insF_good (o3.agree (heltsw.live insF_good) fun b hb => dis b (List.mem_append_right _ (inE b hb)))
        exact (e6.agree insF_good fun b hb => a67 b (List.mem_append_right _ hb)) t r
  have own7 := OwnBlks.at (z3 ⟨fills P ++ t0.x.ins, t0.x.en⟩ (f18 ++ fpE Lw) ⟨v18, rfl, hSl⟩)
  generalize g6.sets ((vaddr v16).add (0 * 5 + 0)) [v18] = g7 at own7 hl27
  clear z1 z2 z3 hSl a67 k67
  have eB : (⟨fills P ++ t0.x.ins, t0.x.en⟩ : Blk) = insB t0.x 0 (fills P) := by simp [insB]
  rw [eB] at own7
  have hl7 := hl2.trans hl27
  have hB7 := SlAt.le blkC_mono hl27 hBA
  simp only [List.cons_append, List.nil_append]
  refine h_call0 (s17 (p := P) (fuel := fuel) (ha.le hl7) (hm.le hl7) (hn.le hl7) (by omega)) ?_
  rintro _ g8 ⟨u', m', n', rfl, hl8, iu, im, inn⟩
  refine ⟨[u', m', n', .int .i64 (fuelM fuel)], ⟨iu.fit, im.fit, inn.fit, ⟨_, rfl⟩, trivial⟩, rfl, ?_⟩
  have hfr := fuelM_range fuel
  simp only [List.cons_append, List.nil_append]
  generalize hA : [Value.int .u8 p0, .int .u8 p1, .int .u8 p2, vs, av, mv, nv, .int .i64 fuel, .bool true, .int .i64 (P : Int), .int .i64 (V : Int), u, .int .i64 (B.length : Int), v, .int .i64 (P : Int), NK.val b (.lsl 0), v16, w, v18, u', m', n', .int .i64 (fuelM fuel)] = A
  have hAl : A.length = 23 := by rw [← hA]; rfl
  have z : ∀ (E : List Value), gv (A ++ E) 9 = .int .i64 (P : Int) ∧ gv (A ++ E) 10 = .int .i64 (V : Int) ∧ gv (A ++ E) 11 = u ∧ gv (A ++ E) 16 = v16 ∧ gv (A ++ E) 19 = u' ∧ gv (A ++ E) 20 = m' ∧ gv (A ++ E) 21 = n' ∧ gv (A ++ E) 22 = .int .i64 (fuelM fuel) := fun E => by
    refine ⟨?_, ?_, ?_, ?_, ?_, ?_, ?_, ?_⟩ <;> (rw [gv_of_lt (by omega), ← hA]; rfl)
  obtain ⟨N, hN⟩ : ∃ N, N = max V 3 := ⟨_, rfl⟩
  refine h_callO2 (Q := fun t e h' => g8.le h' ∧ CallsOk t ∧ ExecSpec P N P (B.set 0 (insB t0.x 0 (fills P))) (inArgs args P) (mem.take 100) (ans.take 100) (fuelM fuel) e t) ?_ ?_
  · have := s30 (p := P) (r := N) (s := P) (fuel := fuelM fuel) (SlAt.le blkC_mono hl8 own7) iu im inn
    have zz := z []
    rw [List.append_nil] at zz
    obtain ⟨z9, z10, z11, z16, z19, z20, z21, z22⟩ := zz
    have em := max_val z10
    rw [← hN] at em
    simp only [SV.denL, SV.den, em]
    simp only [X.den]
    rw [z9, z16, z19, z20, z21, z22]
    exact this.post fun r h' q => q
  rintro t e cv g9 mm1 cc1 ⟨hl9, hco, hsp⟩
  have hck2 : mcheckM (P : Int) (N : Int) (P : Int) (B.set 0 (insB t0.x 0 (fills P))) = (0, 0, 0) := by
    refine mcheck_ok (n := 40) (by omega) (by omega) (by omega) (by omega) (by omega) (by omega) (by rw [List.length_set]; omega) (by rw [List.length_set]; omega) (by omega) fun zb hz => ?_
    rw [List.length_set]
    have hsmall := madeB_small (p0 := p0) (p1 := p1') (p2 := p2) (l := l) h0 h14 h2 hs.inB
    rw [← hB] at hsmall
    have old : ∀ zb ∈ B, (∀ y ∈ zb.ins, mofM y N P = 0 ∧ y.args.length ≤ 1000) ∧ zb.ins.length ≤ 32 ∧ endM zb.en N B.length 21 = 0 := fun zb hz => by
      obtain ⟨q1, q2, q3⟩ := hpart zb hz
      exact ⟨fun y hy => ⟨mofM_kind (by omega) (by omega) (ofM_le (q2 y hy) (by omega)), (hsmall.2 zb hz).2 y hy⟩, q1, endM_le q3 (by omega)⟩
    rcases List.mem_or_eq_of_mem_set hz with q | rfl
    · obtain ⟨q1, q2, q3⟩ := old zb q
      exact ⟨by omega, q1, q3⟩
    · obtain ⟨q1, q2, q3⟩ := old t0.x hxm
      refine ⟨?_, fun y hy => ?_, q3⟩
      · simp only [insB, List.length_append, List.length_take, List.length_drop, fills_len]; omega
      · simp only [insB, List.take_zero, List.nil_append, List.drop_zero, List.mem_append] at hy
        rcases hy with r | r
        · obtain ⟨p', hp', rfl⟩ := List.mem_map.1 r
          rw [List.mem_range] at hp'
          exact ⟨fill_ok (by omega) (by omega), by simp [spillI]⟩
        · exact q1 y r
  obtain ⟨rfl, hrun⟩ := exec_made hck2 hfr (inArgs_len args P) hsp
  refine h_callO2 (Q := fun t2 e2 h' => g9.le h' ∧ CallsOk t2 ∧ RunSpec P V B (inArgs args P) (mem.take 100) (ans.take 100) (fuelM fuel) e2 t2) ?_ ?_
  · have := s18 (p := P) (n := V) (fuel := fuelM fuel) (SlAt.le blkC_mono (hl8.trans hl9) hB7) (iu.le hl9) (im.le hl9) (inn.le hl9)
    obtain ⟨z9, z10, z11, z16, z19, z20, z21, z22⟩ := z (outC t cv ++ [.int .i64 0])
    simp only [SV.denL, SV.den, X.den]
    rw [z9, z10, z11, z19, z20, z21, z22]
    exact this.post fun r h' q => q
  rintro t2 e2 cv2 g10 mm2 cc2 ⟨hl10, hco2, hsp2⟩
  obtain ⟨rfl, hrun2⟩ := run_made hck hfr (inArgs_len args P) hsp2
  have hso : SameO t t2 := plain_run (N := N) hx hok (fun zb hz y hy => by have := ofM_kinds ((hpart zb hz).2.1 y hy); omega) hno (inArgs_len args P) hPV (by omega) hrun2 hrun
  have eG : A ++ (outC t cv ++ [Value.int .i64 0]) ++ (outC t2 cv2 ++ [.int .i64 0]) = A ++ (outC t cv ++ ([.int .i64 0] ++ (outC t2 cv2 ++ [.int .i64 0]))) := by simp
  have hAl2 : (A ++ (outC t cv ++ [Value.int .i64 0])).length = 92 := by simp [hAl, outC_len mm1]
  have f1 := gOe (A := A) (B := [Value.int .i64 0] ++ (outC t2 cv2 ++ [.int .i64 0])) (cv := cv) (j := 0) hAl mm1
  rw [← eG] at f1
  have f2 := gOe (A := A ++ (outC t cv ++ [.int .i64 0])) (B := [.int .i64 0]) (cv := cv2) (j := 0) hAl2 mm2
  refine iteT (both_ok f1 f2) ?_
  refine h_same (A := A) (M := [.int .i64 0]) (D := [.int .i64 0]) eG mm1 mm2 (SlAt.le callC_mono hl10 cc1) cc2 hso hco (by rw [hAl]; rfl) (by rw [hAl]; rfl) ?_
  refine ⟨rfl, ((hl7.trans hl8).trans hl9).trans hl10, ?_⟩
  have hGl : (A ++ (outC t cv ++ [Value.int .i64 0]) ++ (outC t2 cv2 ++ [Value.int .i64 0])).length = 161 := by simp [hAl, outC_len mm1, outC_len mm2]
  simp only [SV.den, X.den]
  rw [gv_at (j := 0) (by omega)]; rfl
namespace execPlain
theorem own : ownKnob Try.prog.godebug = none := by kernel_rfl
set_option maxRecDepth 100000 in
theorem laidOut : laidOutB Try.prog = true := by kernel_rfl
set_option maxRecDepth 100000 in
theorem contract (H : Type) (enc : TypeId × Value → H) (W : World) (base : Nat) (args : Array Value) (ds gs : List (DataW H)) (before : List MemPlace)
    (hval : ∀ (j : Nat) t v, Try.f14.params[j]? = some t → args[j]? = some v → Value.okWide Try.prog W .any base t v)
    (hW : DataW.Whole enc Try.prog Try.f14.params.toList Rows.execPlainSpec.vars false W args.toList ds gs before) :
    Calls Try.prog 14 args W fun e W' => ∃ v, e = .returned v ∧ Rows.execPlainSpec.post enc Try.prog Try.f14 false true false false W args v W' := by
  have hW' := hW
  obtain ⟨p, q, hA, hV, rfl, hfz, hnd⟩ := hW
  rw [Try.params14] at hA hval
  obtain ⟨v0, vs0, d0, ds0, p0, q0, hargs, rfl, rfl, h0, r0⟩ := trodAll_cons hA
  obtain ⟨v1, vs1, d1, ds1, p1, q1, rfl, rfl, rfl, h1, r1⟩ := trodAll_cons r0
  obtain ⟨rfl, rfl, rfl⟩ := trodAll_nil r1
  obtain rfl : args = #[v0, v1] := by cases args; simp_all
  obtain ⟨cs0, rfl, -⟩ := okWide_struct Try.underlying24 (hval 0 24 v0 rfl rfl)
  obtain ⟨p0, p1, p2, vs, l, he0, g0, g1, g2, hs⟩ := rd_spec (Rd.of h0)
  obtain rfl : cs0 = ([Value.int .u8 p0, .int .u8 p1, .int .u8 p2, vs]).toArray := by rw [← he0]; simp [Value.cells]
  obtain ⟨cs1, rfl, -⟩ := okWide_struct Try.underlying27 (hval 1 27 v1 rfl rfl)
  obtain ⟨av, mv, nv, fuel, args, mem, ans, he1, ha, hm, hn⟩ := rd_input (Rd.of h1)
  obtain rfl : cs1 = ([av, mv, nv, Value.int .i64 fuel]).toArray := by rw [← he1]; simp [Value.cells]
  refine (law_calls (f := 14) (args := [.agg ([Value.int .u8 p0, .int .u8 p1, .int .u8 p2, vs]).toArray, .agg ([av, mv, nv, Value.int .i64 fuel]).toArray]) (s14 hs g0 g1 g2 ha hm hn)).mono ?_
  rintro e' W' ⟨rfl, bel⟩
  exact ⟨_, rfl, law_post laidOut hW' rfl (of_decide_eq_true (by kernel_rfl)) rfl Try.underlying4 rfl bel⟩
set_option maxRecDepth 100000 in
theorem lifted (os : Os) (started : os.Started) (H : Type) (enc : TypeId × Value → H) :
    ReturnsInHanded {} Try.checked os 14 .any (Rows.execPlainSpec.pre6 enc Try.prog Try.f14 Rows.execPlainRow.domain false) (Rows.execPlainSpec.post enc Try.prog Try.f14 false true false false) := by
  refine returnsInHanded_of_change (C := Try.checked) own started (by kernel_rfl) Try.func14
    (ChangeSpec.witness6 (enc := enc) (C := Try.checked) false ⟨#[], #[.agg #[.int .u8 0, .int .u8 0, .int .u8 0, .slice none 0 0], .agg #[.slice none 0 0, .slice none 0 0, .slice none 0 0, .int .i64 0]], []⟩ 8 (by kernel_rfl) (by kernel_rfl) (by kernel_rfl) (by kernel_rfl)) ?_
  intro W base args ds gs before hval hW _ _
  exact contract H enc W base args ds gs before hval hW
set_option maxRecDepth 100000 in
theorem proved : Rows.ExecPlainSaid :=
  OpenClaim.holds_of_wide 14 Try.f14 rfl rfl rfl rfl rfl rfl rfl ⟨rfl, rfl, rfl, rfl, rfl⟩ rfl rfl rfl rfl rfl (by kernel_rfl) Try.func14 (by kernel_rfl)
    (of_decide_eq_true (by kernel_rfl)) (by unfold Func.isWrapper; first | (rw [if_pos (by decide +kernel)]; kernel_rfl) | (rw [if_neg (by decide +kernel)]; exact ⟨rfl, rfl⟩))
    (fun os started H enc _ => lifted os started H enc)
end execPlain
/-- The row, under a short name, for the claim. -/
theorem execPlainHolds : Rows.ExecPlainSaid := execPlain.proved
#print axioms execPlainHolds
end Go.Proofs.Ytodeffobplpcnaa
