/-
  The search for what is needed, as it runs; what is behind each instruction. Conditions: as each contract says.
-/
import Derived.Test.YtbbicdfipheaeaaDoorR5P
import Derived.Test.YtbbicdfipheaeaaDoorInsL
set_option linter.unusedVariables false
set_option linter.unusedSimpArgs false
namespace Go.Proofs.YtbbicdfipheaeaaDoor
open Go

theorem app_rowGs {h : H} {e : TypeId} {bytes m : Nat} {v : Value} {z cs N : List Value} {fp : List Nat} {K : Value → H → Prop} (H : RowG h e v cs fp) (hN : N.length = m) (hz : z.length = 1)
    (hb : (vlen v + m) * bytes ≤ 140737488355328)
    (HK : ∀ v' h' fp', RowG h' e v' (cs ++ N) fp' → KeptH h h' fp → (fp' = fp ∨ ∃ b, fp' = [b] ∧ h b = none) → K v' h') : AppSpec h e 1 bytes z v N m K := by
  have hrep : ∀ k, (repZ z k).length = k := fun k => by simp [repZ, hz]
  rcases H with ⟨rfl, rfl, rfl⟩ | ⟨b, o, n, c, pre, r, post, rfl, h1, h2, h3, h4, h5, rfl⟩
  · refine ⟨fun hc => ?_, fun hc => ⟨growslice_fits hc hb, [], by simp, (fun _ e => by cases e), fun b nc hn hnc => ?_⟩⟩
    · have hm : m = 0 := by omega
      subst hm
      have : N = [] := List.eq_nil_of_length_eq_zero hN
      subst this
      exact ⟨fun i hi => absurd hi (Nat.not_lt_zero _), HK _ _ [] (.inl ⟨rfl, rfl, rfl⟩) (KeptH.refl _ _) (.inl rfl)⟩
    · refine HK _ _ [b] (.inr ⟨b, 0, 0 + m, nc, [], repZ z (nc - (0 + m)), [], rfl, by rw [H.put_same]; simp, rfl, by simp [hN], hrep _, hnc, rfl⟩) (KeptH.put hn _) (.inr ⟨b, rfl, hn⟩)
  · refine ⟨fun hc => ?_, fun hc => ⟨growslice_fits hc hb, cs, by simpa using h3, fun ad e => ?_, fun b' nc hn hnc => ?_⟩⟩
    · have hr : r = r.take N.length ++ r.drop N.length := (List.take_append_drop ..).symm
      have hlr : N.length ≤ r.length := by rw [hN, h4]; omega
      have hcell : h b = some (.cells ((pre ++ cs) ++ r.take N.length ++ (r.drop N.length ++ post)).toArray e (0, 0)) := by
        have e1 : (pre ++ cs) ++ r.take N.length ++ (r.drop N.length ++ post) = pre ++ cs ++ r ++ post := by
          conv => rhs; rw [hr]
          simp only [List.append_assoc]
        rw [e1]; exact h1
      obtain ⟨s1, s2⟩ := sets_block (b := b) (e := e) (f := (0, 0)) N h (o + n) (pre ++ cs) (r.take N.length) (r.drop N.length ++ post) (by simp; omega) (by rw [List.length_take]; omega) hcell
      have ea : ((some (⟨b, o, none⟩ : Addr)).getD default).add (n * 1) = ⟨b, o + n, none⟩ := by rw [Option.getD_some, add_lit, Nat.mul_one]
      rw [ea]
      refine ⟨fun i hi => ?_, HK _ _ [b] (.inr ⟨b, o, n + m, c, pre, r.drop N.length, post, rfl, by rw [s1]; simp, h2, by simp [h3, hN], by rw [List.length_drop, h4, hN]; omega, hc, rfl⟩) (fun y hy _ => s2 y fun e => hy (by rw [e]; exact List.mem_singleton.2 rfl)) (.inl rfl)⟩
      rw [add_lit]
      have hl : o + n + i < (pre ++ cs ++ r ++ post).length := by simp; omega
      simp only [H.cell?, H.frozen?, h1]
      constructor
      · simp only [Option.isSome_none, Bool.false_eq_true, if_false, List.getElem?_toArray, List.getElem?_eq_getElem hl, Option.isSome_some]
      · simp
    · cases e
      intro i u hi
      have := RowG.reads (h := h) (e := e) (fp := [b]) (.inr ⟨b, o, n, c, pre, r, post, rfl, h1, h2, h3, h4, h5, rfl⟩) hi 0 u rfl
      rw [vaddr_sl, add_add] at this; simpa using this
    · refine HK _ _ [b'] (.inr ⟨b', 0, n + m, nc, [], repZ z (nc - (n + m)), [], rfl, by rw [H.put_same]; simp, rfl, by simp [h3, hN], hrep _, hnc, rfl⟩) (KeptH.put hn _) (.inr ⟨b', rfl, hn⟩)
/-- Numbers appended to a row of one's own. -/
theorem app_nums {R : Value → List (List Value) → H → Prop} {G : List Value} {L : Lv} {h : H} {d s : Nat} {vd vs : Value} {l m : List Nat} {f : List Nat} {k : Out} (hd : gv G d = vd) (hs : gv G s = vs) (kd : RowG h 3 vd (l.map natV) f) (ks : IntsAt h vs (m.map Int.ofNat)) (hb : l.length + m.length ≤ 1000000)
    (K : ∀ v h' f', RowG h' 3 v ((l ++ m).map natV) f' → KeptH h h' f → (∀ b ∈ f', b ∈ f ∨ h b = none) → holds Tryd.prog R k (G ++ [v]) L h') :
    holds Tryd.prog R (.app 3 1 8 (.val d) (.sl (.val s)) k) G L h := by
  have hsrc := ks.src
  have hl := kd.len
  rw [List.length_map] at hl hsrc
  rw [List.map_map] at hsrc
  refine ⟨m.map natV, m.length, src_ok hs hsrc (by simp) (fun v hv => by obtain ⟨x, _, rfl⟩ := List.mem_map.1 hv; rfl), ?_⟩
  show AppSpec h 3 1 8 _ (gv G d) _ _ _
  rw [hd]
  refine app_rowGs kd (by simp) zero_int (by rw [hl]; omega) fun v' h' f' m1 m3 m4 => ?_
  rw [← List.map_append] at m1
  exact K v' h' f' m1 m3 fun b hb => by
    rcases m4 with rfl | ⟨z, rfl, hz⟩
    · exact .inl hb
    · rw [List.mem_singleton] at hb; subst hb; exact .inr hz
/-- Numbers of instructions, of blocks. -/
def SmB (B : List Blk) : Prop := ∀ b ∈ B, b.ins.length ≤ 100000 ∧ ∀ x ∈ b.ins, x.args.length ≤ 10000
theorem RegL.smB {B : List Blk} (h : RegL B) : SmB B := fun b hb => ⟨(h b hb).len, fun x hx => ((h b hb).ins x hx).args⟩
structure SSt (h0 h : H) (vb vr : Value) (seen : List Bool) (row : List Nat) (bb : Nat) (fr : List Nat) : Prop where
  s : RowF h 4 1 vb (seen.map .bool) [bb]
  r : RowG h 3 vr (row.map natV) fr
  d : bb ∉ fr
  le : h0.le h
  fb : h0 bb = none
  ff : Fresh h0 fr
theorem SSt.grow {h0 h h' : H} {vb vr : Value} {seen : List Bool} {row : List Nat} {bb : Nat} {fr : List Nat} (K : SSt h0 h vb vr seen row bb fr) (hl : h.le h') : SSt h0 h' vb vr seen row bb fr :=
  ⟨K.s.agree (le_agree' hl K.s.live), K.r.agree (le_agree' hl K.r.live), K.d, K.le.trans hl, K.fb, K.ff⟩
theorem SSt.app {h0 h h' : H} {vb vr vr' : Value} {seen : List Bool} {row row' : List Nat} {bb : Nat} {fr fr' : List Nat} (K : SSt h0 h vb vr seen row bb fr) (r' : RowG h' 3 vr' (row'.map natV) fr') (k : KeptH h h' fr) (n : ∀ b ∈ fr', b ∈ fr ∨ h b = none) : SSt h0 h' vb vr' seen row' bb fr' := by
  refine ⟨K.s.agree (k.agree K.s.live fun b hb hb' => ?_), r', fun hb => ?_, k.le K.le K.ff, K.fb, fun b hb => (n b hb).elim (K.ff b) (H.le_none K.le)⟩
  · rw [List.mem_singleton] at hb; subst hb; exact K.d hb'
  · rcases n bb hb with q | q
    · exact K.d q
    · have := K.s.live bb (by simp); rw [q] at this; cases this
theorem SSt.mark {h0 h : H} {vb vr : Value} {seen : List Bool} {row : List Nat} {bb : Nat} {fr : List Nat} {x : Nat} (K : SSt h0 h vb vr seen row bb fr) (hx : x < seen.length) :
    Writable h ((vaddr vb).add (x * 1)) 1 ∧ SSt h0 (h.sets ((vaddr vb).add (x * 1)) [.bool true]) vb vr (seen.set x true) row bb fr := by
  rw [Nat.mul_one]
  obtain ⟨w, k1, k2⟩ := rowF_set (x := .bool true) (i := x) K.s (by rw [List.length_map]; exact hx)
  rw [← List.map_set] at k1
  refine ⟨w, k1, K.r.agree (k2.agree K.r.live fun b hb hb' => ?_), K.d, k2.le K.le fun b hb => ?_, K.fb, K.ff⟩
  · rw [List.mem_singleton] at hb'; subst hb'; exact K.d hb
  · rw [List.mem_singleton] at hb; subst hb; exact K.fb
theorem SSt.seen {h0 h : H} {vb vr : Value} {seen : List Bool} {row : List Nat} {bb : Nat} {fr : List Nat} {x : Nat} {w : Bool} (K : SSt h0 h vb vr seen row bb fr) (hx : seen[x]? = some w) : Reads h ((vaddr vb).add (x * 1)) [.bool w] :=
  rowF_read K.s (by rw [List.getElem?_map, hx]; rfl)
set_option maxRecDepth 4000 in
theorem s34 {h : H} {u : Value} {B : List Blk} {b k v : Nat} {x : Blk} (hu : BlksAt h u B) (hO : OkB B) (hS : SmB B) (hN : B.length ≤ 1000) (hx : B[b]? = some x) (hk : k ≤ x.ins.length) :
    CallsA Tryd.prog 34 (fun _ => [u, natV b, natV k, natV v]) [] h (Ret fun r h' => h.le h' ∧ ∃ q : Bool, r = .bool q ∧ (q = true ↔ NdAt B v b (takenM x.en v (x.ins.drop k)))) := by
  refine c34 (G := [u, natV b, natV k, natV v]) ⟨hu.fit, ⟨_, rfl⟩, ⟨_, rfl⟩, ⟨_, rfl⟩, trivial⟩ ?_
  have hul := hu.len
  have hbN := (List.getElem?_eq_some_iff.1 hx).1
  have nd : ∀ {D : List Value} {q q' b : Nat} {vx : Value}, gv D q = natV b → gv D q' = vx → vlen vx = B.length → b < B.length → needs D [(.cmp .geq (.var q) (.lit 0)), (.cmp .lss (.var q) (.len q'))] := fun {D q q' b vx} e1 e2 e3 e4 => by
    simp only [needs, X.den, e1, e2, e3, vb_bool, vi_int, and_true]
    exact ⟨ge0 b, ltN e4⟩
  -- one block looked at
  have look : ∀ {g : H} {c j : Nat} {y : Blk}, h.le g → B[c]? = some y → j ≤ y.ins.length → ∃ w, SlAt 7 InsC g w y.ins ∧ Reads g ((vaddr u).add (c * 5)) (w :: endC y.en) ∧ CallsA Tryd.prog 63 (fun _ => [.agg (w :: endC y.en).toArray, natV j, .int .i64 (v : Int)]) [] g (Ret fun r h' => g.le h' ∧ r = .int .i64 (takenM y.en v (y.ins.drop j))) := fun {g c j y} hl hy hj => by
    obtain ⟨cs, ⟨w, rfl, hw⟩, hrd⟩ := (SlAt.le blkC_mono hl hu).get c y hy
    have hm := hS y (List.mem_of_getElem? hy)
    exact ⟨w, hw, hrd, s63 hw hj hm.1 hm.2⟩
  obtain ⟨w, hw, hrd, hcall⟩ := look (H.le_refl h) hx hk
  refine ⟨fun _ => nd (vx := u) rfl rfl hul hbN, h_load (w :: endC x.en) ⟨hw.fit, ⟨_, rfl⟩, ⟨_, rfl⟩, ⟨_, rfl⟩, ⟨_, rfl⟩, trivial⟩ (fun _ => hrd) ?_⟩
  refine h_call0 hcall ?_
  rintro _ g1 ⟨l1, rfl⟩
  obtain ⟨t, ht⟩ : ∃ t, t = takenM x.en v (x.ins.drop k) := ⟨_, rfl⟩
  rw [← ht]
  refine ⟨[.int .i64 t], ⟨⟨_, rfl⟩, trivial⟩, rfl, ?_⟩
  simp only [endC, List.cons_append, List.nil_append]
  refine h_ite (fun hc => ?_) (fun hc => ?_)
  · replace hc : cmpOp .neq t 0 = true := hc
    rw [cmp_neq, decide_eq_true_eq] at hc
    refine ⟨rfl, l1, decide (t = 1), ?_, ?_⟩
    · show Value.bool (cmpOp .eql t 1) = _
      rw [cmp_eql]
    · rw [decide_eq_true_eq]
      exact ⟨fun h => .inl h, fun h => h.elim id fun q => absurd q.1 hc⟩
  replace hc : cmpOp .neq t 0 = false := hc
  rw [cmp_neq, decide_eq_false_iff_not] at hc
  replace hc : t = 0 := Classical.not_not.1 hc
  have hgoal : NdAt B v b t ↔ ∃ a ∈ nextN B b, Nd B v a := by
    rw [hc]
    exact ⟨fun h => h.elim (fun q => by cases q) fun q => q.2, fun h => .inr ⟨rfl, h⟩⟩
  have e0 : ∀ D : List Value, gv D 0 = u → vi ((X.len 0).den D) = (B.length : Int) := fun D e => by
    show vi (.int .i64 ((vlen (gv D 0) : Nat) : Int)) = _; rw [e, hul]; rfl
  refine ⟨by rw [e0 _ rfl]; omega, by rw [e0 _ rfl]; omega, fun bb hbb => ?_⟩
  rw [e0 _ rfl, Int.toNat_natCast]
  have kb := mk_bools (n := B.length) hbb
  have l2 : g1.le (g1.put bb (.cells (repZ ((zeroCells Tryd.prog 4).getD []) B.length).toArray 4 (0, 0))) := H.le_put hbb
  generalize g1.put bb (.cells (repZ ((zeroCells Tryd.prog 4).getD []) B.length).toArray 4 (0, 0)) = g2 at kb l2 ⊢
  obtain ⟨vb, hvb⟩ : ∃ vb, vb = Value.slice (some ⟨bb, 0, none⟩) B.length B.length := ⟨_, rfl⟩
  have hvbl : vlen vb = B.length := by rw [hvb]; rfl
  rw [← hvb] at kb ⊢
  simp only [List.cons_append, List.nil_append]
  intro b2 hb2
  have r2 := RowF.new (h := g2) (e := 3) (sz := 1) (b := b2) (n := 0) (c := 0) (cs := []) (r := []) rfl rfl (Nat.le_refl _)
  rw [List.append_nil] at r2
  have l3 : g2.le (g2.put b2 (.cells [].toArray 3 (0, 0))) := H.le_put hb2
  show holds _ _ _ [u, natV b, natV k, natV v, w, .int .u8 x.en.kind, .int .i64 x.en.a, .int .i64 x.en.to, .int .i64 x.en.el, .int .i64 t, vb, .slice (some ⟨b2, 0, none⟩) 0 0] _ (g2.put b2 (.cells [].toArray 3 (0, 0)))
  generalize g2.put b2 (.cells [].toArray 3 (0, 0)) = g3 at r2 l3 ⊢
  have hbh : h bb = none := H.le_none l1 hbb
  have hne : bb ≠ b2 := fun q => by
    have := kb.live bb (by simp)
    rw [q, hb2] at this; cases this
  have K3 : SSt h g3 vb (.slice (some ⟨b2, 0, none⟩) 0 0) (List.replicate B.length false) [] bb [b2] :=
    ⟨kb.agree (le_agree' l3 kb.live), r2.toG, by simpa using hne, l1.trans (l2.trans l3), hbh, fun z hz => by rw [List.mem_singleton] at hz; subst hz; exact H.le_none (l1.trans l2) hb2⟩
  -- the blocks that follow one
  have nxt : ∀ {g : H} {c : Nat} {y : Blk}, h.le g → B[c]? = some y → Reads g (((vaddr u).add (c * 5)).add 1) (endC y.en) ∧ CallsA Tryd.prog 32 (fun _ => [.agg (endC y.en).toArray]) [] g (Ret fun r h' => g.le h' ∧ OwnInts g h' r ((nextN B c).map Int.ofNat)) := fun {g c y} hl hy => by
    have := blks_get (SlAt.le blkC_mono hl hu) hy
    rw [next_nat hO hy]
    exact ⟨by rw [add_add]; exact this, s32 y.en⟩
  obtain ⟨rn, cn⟩ := nxt K3.le hx
  refine ⟨fun _ => nd (vx := u) rfl rfl hul hbN, h_load (endC x.en) ⟨⟨_, rfl⟩, ⟨_, rfl⟩, ⟨_, rfl⟩, ⟨_, rfl⟩, trivial⟩ (fun _ => rn) ?_⟩
  refine h_call0 cn ?_
  rintro v16 g4 ⟨l4, ho4⟩
  refine ⟨[v16], ⟨ho4.ints.fit, trivial⟩, rfl, ?_⟩
  simp only [endC, List.cons_append, List.nil_append]
  have K4 := K3.grow l4
  have hn2 := nextN_len B b
  refine app_nums (l := []) (m := nextN B b) rfl rfl K4.r ho4.ints (by simp; omega) fun v17 g5 f5 a1 a2 a3 => ?_
  have K5 := K4.app a1 a2 a3
  rw [List.nil_append] at K5
  simp only [List.cons_append, List.nil_append]
  refine h_loopM (fun n xs h' => ∃ (vr : Value) (row : List Nat) (seen : List Bool) (fr : List Nat), xs = [vr] ∧ SSt h h' vb vr seen row bb fr ∧ Srch B v b row seen ∧ n = 3 * unk seen + row.length ∧ row.length + 3 * unk seen ≤ 10000) _
    ⟨v17, nextN B b, _, f5, rfl, K5, Srch.begin hO, rfl, by
      have := unk_le (List.replicate B.length false)
      rw [List.length_replicate] at this
      omega⟩ ?_
  rintro n xs g6 J - ⟨vr, row, seen, fr, rfl, K6, S6, hn, hlim⟩ hJ
  simp only [List.cons_append, List.nil_append]
  have hrl := K6.r.len
  rw [List.length_map] at hrl
  refine h_ite (fun hc6 => ?_) (fun hc6 => ?_)
  · replace hc6 : cmpOp .gtr ((vlen vr : Nat) : Int) 0 = true := hc6
    rw [hrl, cmp_gtr, decide_eq_true_eq] at hc6
    obtain ⟨c, row, rfl⟩ : ∃ c r, row = c :: r := by
      cases row with
      | nil => simp at hc6
      | cons c r => exact ⟨c, r, rfl⟩
    have hcN := S6.lt c (List.mem_cons_self ..)
    have hy := List.getElem?_eq_getElem hcN
    generalize B[c] = y at hy
    obtain ⟨sw, hsw⟩ : ∃ sw, seen[c]? = some sw := ⟨_, List.getElem?_eq_getElem (by rw [S6.len]; exact hcN)⟩
    refine ⟨fun _ => ⟨rfl, ?_, trivial⟩, h_load [natV c] ⟨⟨_, rfl⟩, trivial⟩ (fun _ => K6.r.reads (i := 0) (x := natV c) rfl) ⟨fun _ => ⟨rfl, ?_, trivial⟩, ?_⟩⟩
    · show cmpOp .lss 0 ((vlen vr : Nat) : Int) = true
      rw [hrl, cmp_lss, decide_eq_true_eq, List.length_cons]; omega
    · show cmpOp .leq 1 ((vlen vr : Nat) : Int) = true
      rw [hrl, cmp_leq, decide_eq_true_eq, List.length_cons]; omega
    intro z hz
    replace hz : z = sliceV vr 1 (vlen vr) 1 := hz
    have rt : RowG g6 3 z (row.map natV) fr := by rw [hz]; exact RowG.tail K6.r
    have K7 : SSt h g6 vb z seen row bb fr := ⟨K6.s, rt, K6.d, K6.le, K6.fb, K6.ff⟩
    simp only [List.cons_append, List.nil_append]
    refine ⟨fun _ => nd (vx := vb) rfl rfl hvbl hcN, h_load [.bool sw] ⟨⟨_, rfl⟩, trivial⟩ (fun _ => K6.seen hsw) (h_ite (fun h21 => ?_) (fun h21 => ?_))⟩
    · replace h21 : sw = true := h21
      subst h21
      show J [z] g6
      exact hJ _ _ _ ⟨z, row, seen, fr, rfl, K7, S6.skip hsw, rfl, by simp at hlim; omega⟩ (by simp at hn; omega)
    · replace h21 : sw = false := h21
      subst h21
      have hcs : c < seen.length := by rw [S6.len]; exact hcN
      obtain ⟨wr, K8⟩ := K7.mark hcs
      have hlt : unk (seen.set c true) < unk seen := potS_set _ hsw (by simp)
      simp only [List.cons_append, List.nil_append]
      refine ⟨fun _ => nd (vx := vb) rfl rfl hvbl hcN, h_store ((vaddr vb).add (c * 1)) [.bool true] rfl rfl wr ?_⟩
      generalize g6.sets ((vaddr vb).add (c * 1)) [.bool true] = g8 at K8 ⊢
      obtain ⟨w8, hw8, hrd8, hcall8⟩ := look K8.le hy (Nat.zero_le _)
      refine ⟨fun _ => nd (vx := u) rfl rfl hul hcN, h_load (w8 :: endC y.en) ⟨hw8.fit, ⟨_, rfl⟩, ⟨_, rfl⟩, ⟨_, rfl⟩, ⟨_, rfl⟩, trivial⟩ (fun _ => hrd8) ?_⟩
      refine h_call0 hcall8 ?_
      rintro _ g9 ⟨l9, rfl⟩
      rw [List.drop_zero, ← tkB_at hy]
      have K9 := K8.grow l9
      refine ⟨[.int .i64 (tkB B v c)], ⟨⟨_, rfl⟩, trivial⟩, rfl, ?_⟩
      simp only [endC, List.cons_append, List.nil_append]
      refine h_ite (fun h27 => ?_) (fun h27 => ?_)
      · replace h27 : cmpOp .eql (tkB B v c) 1 = true := h27
        rw [cmp_eql, decide_eq_true_eq] at h27
        refine ⟨rfl, K9.le, true, rfl, ?_⟩
        rw [hgoal]
        exact ⟨fun _ => S6.snd c (List.mem_cons_self ..) (.use hcN h27), fun _ => rfl⟩
      replace h27 : cmpOp .eql (tkB B v c) 1 = false := h27
      rw [cmp_eql, decide_eq_false_iff_not] at h27
      have S9 := S6.more hO h27
      refine h_ite (fun h0 => ?_) (fun h0 => ?_)
      · replace h0 : cmpOp .eql (tkB B v c) 0 = true := h0
        rw [cmp_eql, decide_eq_true_eq] at h0
        rw [if_pos h0] at S9
        obtain ⟨rn9, cn9⟩ := nxt K9.le hy
        refine ⟨fun _ => nd (vx := u) rfl rfl hul hcN, h_load (endC y.en) ⟨⟨_, rfl⟩, ⟨_, rfl⟩, ⟨_, rfl⟩, ⟨_, rfl⟩, trivial⟩ (fun _ => rn9) ?_⟩
        refine h_call0 cn9 ?_
        rintro v32 g10 ⟨l10, ho10⟩
        refine ⟨[v32], ⟨ho10.ints.fit, trivial⟩, rfl, ?_⟩
        simp only [endC, List.cons_append, List.nil_append]
        have K10 := K9.grow l10
        have hn3 := nextN_len B c
        refine app_nums (l := row) (m := nextN B c) rfl rfl K10.r ho10.ints (by simp at hlim; omega) fun v33 g11 f11 a1 a2 a3 => ?_
        have K11 := K10.app a1 a2 a3
        show J [v33] g11
        refine hJ _ _ _ ⟨v33, row ++ nextN B c, seen.set c true, f11, rfl, K11, S9, rfl, by simp at hlim ⊢; omega⟩ (by simp at hn hlim ⊢; omega)
      · replace h0 : cmpOp .eql (tkB B v c) 0 = false := h0
        rw [cmp_eql, decide_eq_false_iff_not] at h0
        rw [if_neg h0, List.append_nil] at S9
        show J [z] g9
        exact hJ _ _ _ ⟨z, row, seen.set c true, fr, rfl, K9, S9, rfl, by simp at hlim ⊢; omega⟩ (by simp at hn hlim ⊢; omega)
  · replace hc6 : cmpOp .gtr ((vlen vr : Nat) : Int) 0 = false := hc6
    rw [hrl, cmp_gtr, decide_eq_false_iff_not] at hc6
    have : row = [] := List.eq_nil_of_length_eq_zero (by omega)
    subst this
    refine ⟨rfl, K6.le, false, rfl, ?_⟩
    rw [hgoal]
    exact ⟨fun q => (by cases q), fun q => absurd q S6.done⟩
end Go.Proofs.YtbbicdfipheaeaaDoor
