/-
  The law FlowLeast answers true. Conditions: none.
-/
import Derived.Test.YtbbicdfipheaeaaR5D
import Derived.Test.YtbbicdfipheaeaaMr
import Derived.Test.YtbbicdfipheaeaaRows
set_option linter.unusedVariables false
set_option linter.unusedSimpArgs false
namespace Go.Proofs.Ytbbicdfipheaeaa
open Go Go.ChangeShapes Go.WideShapes Go.ChangeAt Go.RowKit

theorem s24 {h : H} {ad : Addr} {u : Value} {B : List Blk} {b : Nat} (hr : Reads h ad [u]) (hv : BlksAt h u B) (hB : OkB B) (h2 : B.length ≤ 1000) :
    CallsA Try.prog 24 (fun _ => [natV b, .pointer (some ad)]) [] h (Ret fun v h' => h.le h' ∧ OwnInts h h' v ((aheadM B b).map Int.ofNat)) := by
  refine c24 (G := [natV b, .pointer (some ad)]) ⟨⟨_, rfl⟩, ⟨_, rfl⟩, trivial⟩ (h_load [u] ⟨hv.fit, trivial⟩ (fun _ => hr) ?_)
  refine h_call0 (s25o (n := b) hv hB h2) ?_
  rintro v g ⟨hl, ho⟩
  exact ⟨[v], ⟨ho.ints.fit, trivial⟩, rfl, rfl, hl, ho⟩
theorem flL_C {B : List Blk} {h : H} {ad : Addr} {u : Value} (hr : Reads h ad [u]) (hv : BlksAt h u B) (hB : OkB B) (h2 : B.length ≤ 90) :
    FlowC (flL B) 3 IntR h (.func (.func 24) #[] #[.pointer (some ad)]) (.func (.func 8) #[] #[]) (.func (.func 9) #[] #[]) (.func (.func 10) #[] #[]) where
  fits := ⟨.inr ⟨_, _, _, rfl⟩, .inr ⟨_, _, _, rfl⟩, .inr ⟨_, _, _, rfl⟩, .inr ⟨_, _, _, rfl⟩, trivial⟩
  shape := fun h => by obtain ⟨e, -⟩ := h; exact ⟨_, by simpa using e⟩
  good := intR_good
  frm := fun {h' b} hl hb => .of (enter (by decide)) ((s24 (hr.le hl) (SlAt.le blkC_mono hl hv) hB (by omega)).mono fun v cs h' ⟨e, a, c⟩ => ⟨e, a, c, Nat.le_trans (aheadI_len B b B.length) (by omega)⟩)
  first := fun {h b} _ hb => .of (enter (by decide)) (s8.mono fun v cs h' ⟨e, a, c⟩ => ⟨e, by rw [a]; exact H.le_refl _, _, [], c, intR_new _, (fun b hb => by cases hb), List.nodup_nil⟩)
  pass := fun {h b x c f} _ hb hx hr => by
    obtain ⟨e1, e2⟩ := hr
    obtain rfl : c = natV x := by simpa using e1
    have hx' : x ≤ 99 := hx
    exact .of (enter (by decide)) ((s10 (by omega)).mono fun v cs h' ⟨e, a, c⟩ => ⟨e, by rw [a]; exact H.le_refl _, _, [], c, intR_new _, (fun b hb => by cases hb), List.nodup_nil⟩)
  join := fun {h va l fp i x a y c f} _ k hnd hf hi hN ha hx hy hr hd => by
    obtain ⟨e1, e2⟩ := hr
    obtain rfl : c = natV (min (y + 1) 99) := by simpa [flL] using e1
    exact .of (enter (by decide)) (s9 k hnd hi)
theorem s7 {h : H} {u : Value} {B : List Blk} (hv : BlksAt h u B) :
    CallsA Try.prog 7 (fun _ => [u, .bool false]) [] h (Ret fun v h' => h.le h' ∧ ∃ ad, v = .func (.func 24) #[] #[.pointer (some ad)] ∧ Reads h' ad [u]) := by
  refine c7 (G := [u, .bool false]) ⟨hv.fit, ⟨_, rfl⟩, trivial⟩ fun c hc => ?_
  refine h_ite (fun q => by cases q) fun _ => ⟨rfl, H.le_put hc, ⟨c, 0, none⟩, rfl, ?_⟩
  have := Reads.put (h := h) (b := c) (l := [u]) (e := 26) (o := 0) (cs := [u]) fun i w hi => by rw [Nat.zero_add]; exact hi
  rwa [add_lit] at this
def goT (a b : Nat) : Out := .again 0 [(.int .i64 (.op .add .i64 (.var a) (.lit b)))]
set_option maxRecDepth 8000 in
theorem s3 {h : H} {vs : Value} {p0 p1 p2 : Int} {l : List Int} (hs : BytesAt h vs l) (h0 : 0 ≤ p0) (h1 : 0 ≤ p1) (h2 : 0 ≤ p2) :
    CallsA Try.prog 3 (fun _ => [.agg #[.int .u8 p0, .int .u8 p1, .int .u8 p2, vs]]) [] h (Ret fun r h' => h.le h' ∧ r = .bool true) := by
  refine c3 (G := [.int .u8 p0, .int .u8 p1, .int .u8 p2, vs]) ⟨⟨_, rfl⟩, ⟨_, rfl⟩, ⟨_, rfl⟩, hs.fit, trivial⟩ ?_
  obtain ⟨hB, hB1, hB7⟩ := made_B h0 h1 h2 hs.inB
  refine h_call0 s4 ?_
  rintro _ g1 ⟨hl1, rfl⟩
  refine ⟨[.bool true], ⟨⟨_, rfl⟩, trivial⟩, rfl, iteF rfl ?_⟩
  refine h_call0 (s5 (p0 := p0) (p1 := p1) (p2 := p2) (hs.le hl1) h0 h1 h2) ?_
  rintro _ g2 ⟨hk2, u, fp, rfl, hu, hfp, hnd⟩
  generalize madeB p0 p1 p2 l = B at hB hB1 hB7 hu
  have hua := hu.at
  have hul := hua.len
  have hle2 : h.le g2 := hl1.trans hk2.le_nil
  refine ⟨[.int .i64 (madeP p0), .int .i64 (madeV p0 p1), u], ⟨⟨_, rfl⟩, ⟨_, rfl⟩, hua.fit, trivial⟩, rfl, ?_⟩
  simp only [List.cons_append, List.nil_append]
  refine h_call0 (s7 hua) ?_
  rintro _ g3 ⟨hl3, ad, rfl, hrd⟩
  have hu3 := SlAt.le blkC_mono hl3 hua
  refine ⟨[.func (.func 24) #[] #[.pointer (some ad)]], ⟨.inr ⟨_, _, _, rfl⟩, trivial⟩, rfl, ?_⟩
  simp only [List.cons_append, List.nil_append]
  have h6 : CallsA Try.prog 6 (fun _ => [.agg #[.int .i64 ((vlen u : Nat) : Int), .func (.func 24) #[] #[.pointer (some ad)], .func (.func 8) #[] #[], .func (.func 9) #[] #[], .func (.func 10) #[] #[]]]) [] g3
      (Ret fun r h' => g3.le h' ∧ ∃ l fp, Solved (flL B) l ∧ SlF 3 1 IntR h' r l fp ∧ Fresh g3 fp ∧ fp.Nodup) := by
    rw [hul]
    exact s6 (F := flL B) (e := 3) (RF := IntR) (flL_good B) (flL_C hrd hu3 hB (by omega)) (by show B.length ≤ 1000; omega) (z0 := 0) (fun _ => mk_nums)
  refine h_call0 h6 ?_
  rintro vg g4 ⟨hl4, L, fg, hsol, hgot, hfg, hng⟩
  have hgl : vlen vg = L.length := SlF.len (by omega) hgot
  have hLl : L.length = B.length := hsol.len
  have hgfit : Fits .sl vg := by obtain ⟨L, fr, _, _, h4, _⟩ := hgot; exact h4.row0.fit
  refine ⟨[vg], ⟨hgfit, trivial⟩, rfl, ?_⟩
  simp only [List.cons_append, List.nil_append]
  have hle4 : h.le g4 := (hle2.trans hl3).trans hl4
  have hu4 := SlAt.le blkC_mono hl4 hu3
  have rdg : ∀ {i x : Nat} {h' : H}, g4.le h' → L[i]? = some x → Reads h' ((vaddr vg).add (i * 1)) [natV x] := fun hl hi => (slF_num hgot hi).le hl
  intro c1 hc1
  have l5 : g4.le (g4.put c1 (.cells ([natV 0]).toArray 3 (0, 0))) := H.le_put hc1
  have r5 : RowF (g4.put c1 (.cells ([natV 0]).toArray 3 (0, 0))) 3 1 (.slice (some ⟨c1, 0, none⟩) 1 1) (([0] : List Nat).map natV) [c1] := by
    have := RowF.new (h := g4) (e := 3) (sz := 1) (b := c1) (n := 1) (c := 1) (cs := [natV 0]) (r := []) rfl rfl (Nat.le_refl _)
    rw [List.append_nil] at this; exact this
  show ∀ c2, _ → _
  intro c2 hc2
  show holds _ _ _ _ _ ((g4.put c1 (.cells ([natV 0]).toArray 3 (0, 0))).put c2 (.cells ([natV 0]).toArray 3 (0, 0)))
  replace hc2 : (g4.put c1 (.cells ([natV 0]).toArray 3 (0, 0))) c2 = none := hc2
  generalize g4.put c1 (.cells ([natV 0]).toArray 3 (0, 0)) = g5 at l5 r5 hc2 ⊢
  have l6 : g5.le (g5.put c2 (.cells ([natV 0]).toArray 3 (0, 0))) := H.le_put hc2
  have r6 : RowF (g5.put c2 (.cells ([natV 0]).toArray 3 (0, 0))) 3 1 (.slice (some ⟨c2, 0, none⟩) 1 1) (([0] : List Nat).map natV) [c2] := by
    have := RowF.new (h := g5) (e := 3) (sz := 1) (b := c2) (n := 1) (c := 1) (cs := [natV 0]) (r := []) rfl rfl (Nat.le_refl _)
    rw [List.append_nil] at this; exact this
  have r5' := r5.agree (le_agree' l6 r5.live)
  have hne : c1 ≠ c2 := fun q => by have := r5.live c1 (by simp); rw [q, hc2] at this; cases this
  generalize g5.put c2 (.cells ([natV 0]).toArray 3 (0, 0)) = g6 at l6 r6 r5' ⊢
  have R0 : Rows2 g6 (.slice (some ⟨c2, 0, none⟩) 1 1) (.slice (some ⟨c1, 0, none⟩) 1 1) [0] [0] ([c2] ++ [c1]) := ⟨[c2], [c1], rfl, r6, r5', fun b hb hb' => by
    rw [List.mem_singleton] at hb hb'; subst hb; exact hne hb'.symm⟩
  have B0 : Base g4 g6 ([c2] ++ [c1]) := ⟨l5.trans l6, fun b hb => by
    simp at hb
    rcases hb with rfl | rfl
    · exact H.le_none l5 hc2
    · exact hc1⟩
  refine h_loop (fun xs h' => ∃ (n : Nat) (row seen : List Nat) (vS vR : Value) (f : List Nat), xs = [vS, vR, natV n] ∧ Bfs B L n row seen ∧ Rows2 h' vS vR seen row f ∧ Base g4 h' f)
    (fun xs h' => B.length + 1 - (vi (gv xs 2)).toNat) ⟨0, [0], [0], _, _, _, rfl, Bfs.begin hB hsol hB1, R0, B0⟩ ?_
  rintro xs g7 J - ⟨n, row, seen, vS, vR, f, rfl, S, R, Bs⟩ hJ
  simp only [List.cons_append, List.nil_append]
  have hRl : vlen vR = row.length := by have := R.x.len; rwa [List.length_map] at this
  have hlim := S.lim
  have hsl := nodup_len S.nd S.lt
  have ndg : ∀ {D : List Value} {q b : Nat}, gv D q = natV b → gv D 9 = vg → b < B.length → needs D [(.cmp .geq (.var q) (.lit 0)), (.cmp .lss (.var q) (.len 9))] := fun {D q b} e1 e2 e3 => by
    simp only [needs, X.den, e1, e2, hgl, hLl, vb_bool, vi_int, and_true]
    exact ⟨ge0 b, ltN e3⟩
  have ndu : ∀ {D : List Value} {q b : Nat}, gv D q = natV b → gv D 7 = u → b < B.length → needs D [(.cmp .geq (.var q) (.lit 0)), (.cmp .lss (.var q) (.len 7))] := fun {D q b} e1 e2 e3 => by
    simp only [needs, X.den, e1, e2, hul, vb_bool, vi_int, and_true]
    exact ⟨ge0 b, ltN e3⟩
  refine h_ite (fun hc => ?_) (fun hc => ?_)
  · replace hc : cmpOp .gtr ((vlen vR : Nat) : Int) 0 = true := hc
    rw [hRl, cmp_gtr, decide_eq_true_eq] at hc
    have hrow0 : 0 < row.length := by omega
    -- the row lies beside the rows that grow
    obtain ⟨fS, fR, rfl, k1, k2, k3⟩ := R
    obtain ⟨gb, hgb⟩ : ∃ gb, gb = H.cut g7 fS := ⟨_, rfl⟩
    have B1 : Base gb g7 fS := by rw [hgb]; exact Base.cut _ _
    have B4 : Base g4 g7 fS := ⟨Bs.1, fun b hb => Bs.2 b (by simp [hb])⟩
    have hrow : IntsAt gb vR (row.map Int.ofNat) := ints_of_nats (k2.agree (by rw [hgb]; exact cut_agree fun b hb hb' => k3 b hb' hb))
    have R1 : Rows2 g7 vS (.slice none 0 0) seen [] (fS ++ []) := ⟨fS, [], rfl, k1, .inl ⟨rfl, rfl, rfl⟩, fun b _ hb => by cases hb⟩
    rw [List.append_nil] at R1
    refine h_loop (fun xs h' => ∃ (k : Nat) (nx cur : List Nat) (vC vX : Value) (f : List Nat), xs = [vC, vX, natV k] ∧ k ≤ row.length ∧ BfsIn B L n row seen k 0 nx cur ∧ Rows2 h' vC vX cur nx f ∧ Base g4 h' f ∧ Base gb h' f)
      (fun xs h' => row.length - (vi (gv xs 2)).toNat) ⟨0, [], seen, vS, _, fS, rfl, Nat.zero_le _, BfsIn.begin S, R1, B4, B1⟩ ?_
    rintro xs g8 J8 - ⟨k, nx, cur, vC, vX, f8, rfl, hk, I8, R8, B48, B18⟩ hJ8
    simp only [List.cons_append, List.nil_append]
    refine h_ite (fun hc8 => ?_) (fun hc8 => ?_)
    · replace hc8 : cmpOp .lss (k : Int) ((vlen vR : Nat) : Int) = true := hc8
      have hc8' := hc8
      rw [hRl, cmp_lss, decide_eq_true_eq] at hc8
      have hkl : k < row.length := by omega
      have hb := List.getElem?_eq_getElem hkl
      have hbm : row[k] ∈ row := List.getElem_mem _
      generalize row[k] = b at hb hbm
      have hbi : (row.map Int.ofNat)[k]? = some (b : Int) := by rw [List.getElem?_map, hb]; rfl
      have hLb := S.rowL b hbm
      have hbN : b < B.length := by have := (List.getElem?_eq_some_iff.1 hLb).1; omega
      have hx := List.getElem?_eq_getElem hbN
      generalize B[b] = x at hx
      refine ⟨fun _ => ⟨ge0 k, hc8', trivial⟩, h_load [natV b] ⟨⟨_, rfl⟩, trivial⟩ (fun _ => (hrow.le B18.1).read hbi) ⟨fun _ => ndg (b := b) rfl rfl hbN, h_load [natV n] ⟨⟨_, rfl⟩, trivial⟩ (fun _ => rdg B48.1 hLb) (iteF ?_ ⟨fun _ => ndu (b := b) rfl rfl hbN, h_load (endC x.en) (endFit x.en) (fun _ => ?_) ?_⟩)⟩⟩
      · show cmpOp .neq (n : Int) (n : Int) = false
        rw [cmp_neq]; simp
      · show Reads g8 (((vaddr u).add (b * 5)).add 1) (endC x.en)
        rw [add_add]; exact blks_get (SlAt.le blkC_mono B48.1 hu4) hx
      simp only [endC, List.cons_append, List.nil_append]
      refine h_call0 (s11 x.en) ?_
      rintro vn g9 ⟨hl9, hon⟩
      refine ⟨[vn], ⟨hon.ints.fit, trivial⟩, rfl, ?_⟩
      simp only [List.cons_append, List.nil_append]
      have R9 := R8.grow hl9
      have B49 := B48.grow hl9
      have B19 := B18.grow hl9
      obtain ⟨gn, hgn⟩ : ∃ gn, gn = H.cut g9 f8 := ⟨_, rfl⟩
      have B29 : Base gn g9 f8 := by rw [hgn]; exact Base.cut _ _
      have hN9 : IntsAt gn vn (nextL x.en) := by rw [hgn]; exact OwnInts.ints (Row.cut hon R8.live)
      have hnl := hN9.len
      have hNx : nextN B b = (nextL x.en).map Int.toNat := nextN_at hx
      have hNl : (nextN B b).length = (nextL x.en).length := by rw [hNx, List.length_map]
      have hN2 : (nextL x.en).length ≤ 2 := by unfold nextL; split <;> (try split) <;> simp
      have hcl : ∀ {cur : List Nat} {nx : List Nat} {j k : Nat}, BfsIn B L n row seen k j nx cur → cur.length ≤ 1000 ∧ nx.length ≤ 1000 := fun {cur nx j k} I => by
        have hlt : ∀ y ∈ cur, y < B.length := fun y hy => by
          rw [I.curL] at hy
          rcases List.mem_append.1 hy with q | q
          · exact S.lt y q
          · have := (List.getElem?_eq_some_iff.1 (I.nxL y q)).1; omega
        have := nodup_len I.nd hlt
        have e := congrArg List.length I.curL
        rw [List.length_append] at e
        omega
      refine h_loop (fun xs h' => ∃ (j : Nat) (nx cur : List Nat) (vC vX : Value) (f : List Nat), xs = [vC, vX, natV j] ∧ j ≤ (nextN B b).length ∧ BfsIn B L n row seen k j nx cur ∧ Rows2 h' vC vX cur nx f ∧ Base g4 h' f ∧ Base gb h' f ∧ Base gn h' f)
        (fun xs h' => (nextN B b).length - (vi (gv xs 2)).toNat) ⟨0, nx, cur, vC, vX, f8, rfl, Nat.zero_le _, I8, R9, B49, B19, B29⟩ ?_
      rintro xs ga JA - ⟨j, nxa, cua, vCa, vXa, fa, rfl, hj, Ia, Ra, B4a, B1a, B2a⟩ hJA
      simp only [List.cons_append, List.nil_append]
      refine h_ite (fun hca => ?_) (fun hca => ?_)
      · replace hca : cmpOp .lss (j : Int) ((vlen vn : Nat) : Int) = true := hca
        have hca' := hca
        rw [hnl, cmp_lss, decide_eq_true_eq] at hca
        have hjl : j < (nextN B b).length := by omega
        have hy := List.getElem?_eq_getElem hjl
        generalize (nextN B b)[j] = y at hy
        have hyi : (nextL x.en)[j]? = some (y : Int) := by
          rw [hNx, List.getElem?_map, Option.map_eq_some_iff] at hy
          obtain ⟨z, q1, q2⟩ := hy
          have := (hB x (List.mem_of_getElem? hx) z (List.mem_of_getElem? q1)).1
          rw [q1]; congr 1; omega
        obtain ⟨c1, c2⟩ := hcl Ia
        refine ⟨fun _ => ⟨ge0 j, hca', trivial⟩, h_load [natV y] ⟨⟨_, rfl⟩, trivial⟩ (fun _ => (hN9.le B2a.1).read hyi) ?_⟩
        simp only [List.cons_append, List.nil_append]
        refine h_call0 (s12 (n := (y : Int)) Ra.s (by rw [List.length_map]; omega)) ?_
        rintro _ gc ⟨ec, rfl⟩
        have ec' := ec.symm
        subst ec'
        refine ⟨[.bool (decide ((y : Int) ∈ cua.map Int.ofNat))], ⟨⟨_, rfl⟩, trivial⟩, rfl, ?_⟩
        simp only [List.cons_append, List.nil_append]
        have nxt : intOp .add .i64 (j : Int) 1 = ((j + 1 : Nat) : Int) := int_add_one (n := 10) (by omega) (by omega)
        refine h_ite (fun hcc => ?_) (fun hcc => ?_)
        · replace hcc : (!decide ((y : Int) ∈ cua.map Int.ofNat)) = true := hcc
          have hyn : y ∉ cua := fun q => by rw [decide_eq_true (mem_ofNat.2 q)] at hcc; cases hcc
          refine ⟨[natV y], 1, ⟨rfl, rfl⟩, Ra.push1 (by omega) fun v' h' f' R' kk' ff' => ⟨[natV y], 1, ⟨rfl, rfl⟩, R'.push2 (by omega) fun v'' h'' f'' R'' kk'' ff'' => ?_⟩⟩
          show JA [v', v'', .int .i64 (intOp .add .i64 (j : Int) 1)] h''
          rw [nxt]
          refine hJA _ _ ⟨j + 1, _, _, v', v'', f'', rfl, by omega, Ia.add hB hsol S (by omega) hb hy hyn, R'', (B4a.step kk' ff').step kk'' ff'', (B1a.step kk' ff').step kk'' ff'', (B2a.step kk' ff').step kk'' ff''⟩ ?_
          simp only [gv_zero, gv_succ, vi_int]; omega
        · replace hcc : (!decide ((y : Int) ∈ cua.map Int.ofNat)) = false := hcc
          have hyn : y ∈ cua := by
            refine mem_ofNat.1 (of_decide_eq_true ?_)
            simpa using hcc
          show JA [vCa, vXa, .int .i64 (intOp .add .i64 (j : Int) 1)] _
          rw [nxt]
          refine hJA _ _ ⟨j + 1, nxa, cua, vCa, vXa, fa, rfl, by omega, Ia.skip hb hy hyn, Ra, B4a, B1a, B2a⟩ ?_
          simp only [gv_zero, gv_succ, vi_int]; omega
      · replace hca : cmpOp .lss (j : Int) ((vlen vn : Nat) : Int) = false := hca
        rw [hnl, cmp_lss, decide_eq_false_iff_not] at hca
        have hje : j = (nextN B b).length := by omega
        subst hje
        show J8 [vCa, vXa, .int .i64 (intOp .add .i64 (k : Int) 1)] ga
        rw [int_add_one (n := 1000) (by omega) (by omega)]
        refine hJ8 _ _ ⟨k + 1, nxa, cua, vCa, vXa, fa, rfl, by omega, Ia.next hb, Ra, B4a, B1a⟩ ?_
        simp only [gv_zero, gv_succ, vi_int]; omega
    · replace hc8 : cmpOp .lss (k : Int) ((vlen vR : Nat) : Int) = false := hc8
      rw [hRl, cmp_lss, decide_eq_false_iff_not] at hc8
      have hke : k = row.length := by omega
      subst hke
      show J [vC, vX, .int .i64 (intOp .add .i64 (n : Int) 1)] g8
      rw [int_add_one (n := 1000) (by omega) (by omega)]
      refine hJ _ _ ⟨n + 1, nx, cur, vC, vX, f8, rfl, I8.done hB hsol S (by omega) hrow0, R8, B48⟩ ?_
      simp only [gv_zero, gv_succ, vi_int]; omega
  · replace hc : cmpOp .gtr ((vlen vR : Nat) : Int) 0 = false := hc
    rw [hRl, cmp_gtr, decide_eq_false_iff_not] at hc
    have hr0 : row = [] := List.eq_nil_of_length_eq_zero (by omega)
    subst hr0
    refine h_loop (fun xs h' => ∃ b : Nat, xs = [natV b] ∧ b ≤ B.length ∧ h' = g7) (fun xs h' => B.length - (vi (gv xs 0)).toNat) ⟨0, rfl, Nat.zero_le _, rfl⟩ ?_
    rintro xs g8 J8 - ⟨b, rfl, hbl, e8⟩ hJ8
    have e8' := e8.symm
    subst e8'
    simp only [List.cons_append, List.nil_append]
    refine h_ite (fun hc8 => ?_) (fun hc8 => ?_)
    · replace hc8 : cmpOp .lss (b : Int) ((vlen u : Nat) : Int) = true := hc8
      rw [hul, cmp_lss, decide_eq_true_eq] at hc8
      have hbN : b < B.length := by omega
      have hLb := List.getElem?_eq_getElem (l := L) (i := b) (by omega)
      generalize L[b] = y at hLb
      refine h_call0 (s12 (n := (b : Int)) R.s (by rw [List.length_map]; omega)) ?_
      rintro _ gc ⟨ec, rfl⟩
      have ec' := ec.symm
      subst ec'
      refine ⟨[.bool (decide ((b : Int) ∈ seen.map Int.ofNat))], ⟨⟨_, rfl⟩, trivial⟩, rfl, ⟨fun _ => ndg (b := b) rfl rfl hbN, h_load [natV y] ⟨⟨_, rfl⟩, trivial⟩ (fun _ => rdg Bs.1 hLb) (iteF ?_ ?_)⟩⟩
      · simp only [X.den, List.cons_append, List.nil_append, gv_zero, gv_succ, vi_int, vb_bool, vb_ite, cmp_neq]
        by_cases hm : b ∈ seen
        · rw [decide_eq_true (mem_ofNat.2 hm)]; simp
        · have := S.rest hB hsol (by omega) hLb hm
          subst this
          simp
      · show J8 [.int .i64 (intOp .add .i64 (b : Int) 1)] _
        rw [int_add_one (n := 1000) (by omega) (by omega)]
        refine hJ8 _ _ ⟨b + 1, rfl, by omega, rfl⟩ ?_
        simp only [gv_zero, gv_succ, vi_int]; omega
    · refine ⟨rfl, hle4.trans Bs.1, ?_⟩
      show Value.bool (cmpOp .eql ((vlen vg : Nat) : Int) ((vlen u : Nat) : Int)) = _
      rw [hgl, hLl, hul, cmp_eql]; simp
namespace flowLeast
theorem own : ownKnob Try.prog.godebug = none := by kernel_rfl
set_option maxRecDepth 100000 in
theorem laidOut : laidOutB Try.prog = true := by kernel_rfl
set_option maxRecDepth 100000 in
theorem contract (H : Type) (enc : TypeId × Value → H) (W : World) (base : Nat) (args : Array Value) (ds gs : List (DataW H)) (before : List MemPlace)
    (hval : ∀ (j : Nat) t v, Try.f3.params[j]? = some t → args[j]? = some v → Value.okWide Try.prog W .any base t v)
    (hW : DataW.Whole enc Try.prog Try.f3.params.toList Rows.flowLeastSpec.vars false W args.toList ds gs before) :
    Calls Try.prog 3 args W fun e W' => ∃ v, e = .returned v ∧ Rows.flowLeastSpec.post enc Try.prog Try.f3 false true false false W args v W' := by
  have hW' := hW
  obtain ⟨p, q, hA, hV, rfl, hfz, hnd⟩ := hW
  rw [Try.params3] at hA hval
  obtain ⟨v0, vs0, d0, ds0, p0, q0, hargs, rfl, rfl, h0, r0⟩ := trodAll_cons hA
  obtain ⟨rfl, rfl, rfl⟩ := trodAll_nil r0
  obtain rfl : args = #[v0] := by cases args; simp_all
  obtain ⟨cs0, rfl, -⟩ := okWide_struct Try.underlying24 (hval 0 24 v0 rfl rfl)
  obtain ⟨p0, p1, p2, vs, l, he0, g0, g1, g2, hs⟩ := rd_spec (Rd.of h0)
  obtain rfl : cs0 = ([Value.int .u8 p0, .int .u8 p1, .int .u8 p2, vs]).toArray := by rw [← he0]; simp [Value.cells]
  refine (law_calls (f := 3) (args := [.agg ([Value.int .u8 p0, .int .u8 p1, .int .u8 p2, vs]).toArray]) (s3 hs g0 g1 g2)).mono ?_
  rintro e' W' ⟨rfl, bel⟩
  exact ⟨_, rfl, law_post laidOut hW' rfl (of_decide_eq_true (by kernel_rfl)) rfl Try.underlying4 rfl bel⟩
set_option maxRecDepth 100000 in
theorem lifted (os : Os) (started : os.Started) (H : Type) (enc : TypeId × Value → H) :
    ReturnsInHanded {} Try.checked os 3 .any (Rows.flowLeastSpec.pre6 enc Try.prog Try.f3 Rows.flowLeastRow.domain false) (Rows.flowLeastSpec.post enc Try.prog Try.f3 false true false false) := by
  refine returnsInHanded_of_change (C := Try.checked) own started (by kernel_rfl) Try.func3
    (ChangeSpec.witness6 (enc := enc) (C := Try.checked) false ⟨#[], #[.agg #[.int .u8 0, .int .u8 0, .int .u8 0, .slice none 0 0]], []⟩ 8 (by kernel_rfl) (by kernel_rfl) (by kernel_rfl) (by kernel_rfl)) ?_
  intro W base args ds gs before hval hW _ _
  exact contract H enc W base args ds gs before hval hW
set_option maxRecDepth 100000 in
theorem proved : Rows.FlowLeastSaid :=
  OpenClaim.holds_of_wide 3 Try.f3 rfl rfl rfl rfl rfl rfl rfl ⟨rfl, rfl, rfl, rfl, rfl⟩ rfl rfl rfl rfl rfl (by kernel_rfl) Try.func3 (by kernel_rfl)
    (of_decide_eq_true (by kernel_rfl)) (by unfold Func.isWrapper; first | (rw [if_pos (by decide +kernel)]; kernel_rfl) | (rw [if_neg (by decide +kernel)]; exact ⟨rfl, rfl⟩))
    (fun os started H enc _ => lifted os started H enc)
end flowLeast
/-- The row, under a short name, for the claim. -/
theorem flowLeastHolds : Rows.FlowLeastSaid := flowLeast.proved
#print axioms flowLeastHolds
end Go.Proofs.Ytbbicdfipheaeaa
