/-
  The law FlowSets answers true. Conditions: none.
-/
import Derived.Test.YtbbicdfipheaeaaDoorR5J
import Derived.Test.YtbbicdfipheaeaaDoorR5Lay
set_option linter.unusedVariables false
set_option linter.unusedSimpArgs false
namespace Go.Proofs.YtbbicdfipheaeaaDoor
open Go Go.ChangeShapes Go.WideShapes Go.ChangeAt Go.RowKit

theorem bools_set {h : H} {v : Value} {l : List Bool} {f : List Nat} {i : Nat} (k : RowF h 4 1 v (l.map .bool) f) (hi : i < l.length) :
    Writable h ((vaddr v).add (i * 1)) 1 ∧ RowF (h.sets ((vaddr v).add (i * 1)) [.bool true]) 4 1 v ((l.set i true).map .bool) f ∧ KeptH h (h.sets ((vaddr v).add (i * 1)) [.bool true]) f := by
  rw [Nat.mul_one, List.map_set]
  exact rowF_set k (by rw [List.length_map]; exact hi)
theorem bools_read {h : H} {v : Value} {l : List Bool} {f : List Nat} {i : Nat} {x : Bool} (k : RowF h 4 1 v (l.map .bool) f) (hi : l[i]? = some x) : Reads h ((vaddr v).add (i * 1)) [.bool x] :=
  rowF_read k (by rw [List.getElem?_map, hi]; rfl)
theorem In_nat {l : List Nat} {n : Nat} : decide ((n : Int) ∈ l.map Int.ofNat) = decide (n ∈ l) := decide_eq_decide.2 mem_ofNat
/-- A row of truths, all of its own since g. -/
def BoolsSt (g h : H) (v : Value) (l : List Bool) (b : Nat) : Prop := RowF h 4 1 v (l.map .bool) [b] ∧ Base g h [b]
section
variable {g h h' : H} {v : Value} {l : List Bool} {b : Nat}
theorem BoolsSt.le (K : BoolsSt g h v l b) : g.le h := K.2.1
theorem BoolsSt.grow (K : BoolsSt g h v l b) (hl : h.le h') : BoolsSt g h' v l b := ⟨K.1.agree (le_agree' hl K.1.live), K.2.grow hl⟩
theorem BoolsSt.weak {g0 : H} (hl : g0.le g) (K : BoolsSt g h v l b) : BoolsSt g0 h v l b := ⟨K.1, hl.trans K.2.1, fun x hx => H.le_none hl (K.2.2 x hx)⟩
theorem BoolsSt.beside {u : Value} {m : List Int} (K : BoolsSt g h v l b) (hl : h.le h') (hu : OwnInts h h' u m) : ∃ g1, g.le g1 ∧ IntsAt g1 u m ∧ BoolsSt g1 h' v l b :=
  ⟨H.cut h' [b], H.le_cut (K.2.1.trans hl) K.2.2, OwnInts.ints (Row.cut hu K.1.live), K.1.agree (le_agree' hl K.1.live), Base.cut h' [b]⟩
theorem BoolsSt.set {i : Nat} (K : BoolsSt g h v l b) (hi : i < l.length) : Writable h ((vaddr v).add (i * 1)) 1 ∧ BoolsSt g (h.sets ((vaddr v).add (i * 1)) [.bool true]) v (l.set i true) b := by
  obtain ⟨w, k1, k2⟩ := bools_set K.1 hi
  exact ⟨w, k1, K.2.step k2 fun x hx => .inl hx⟩
end
set_option maxRecDepth 8000 in
theorem s3 {h : H} {vs va vc : Value} {p0 p1 p2 : Int} {l A C : List Int} {back : Bool} (ht : Tab h) (hs : BytesAt h vs l) (h0 : 0 ≤ p0) (h1 : 0 ≤ p1) (h2 : 0 ≤ p2) (hA : BytesAt h va A) (hA2 : vcap va ≤ maxLen) (hC : BytesAt h vc C) (hC2 : vcap vc ≤ maxLen) :
    CallsA Tryd.prog 3 (fun _ => [.agg #[.int .u8 p0, .int .u8 p1, .int .u8 p2, vs], va, vc, .bool back]) [] h (Ret fun r h' => h.le h' ∧ r = .bool true) := by
  refine c3 (G := [.int .u8 p0, .int .u8 p1, .int .u8 p2, vs, va, vc, .bool back]) ⟨⟨_, rfl⟩, ⟨_, rfl⟩, ⟨_, rfl⟩, hs.fit, hA.fit, hC.fit, ⟨_, rfl⟩, trivial⟩ ?_
  refine open_holds hs h0 h1 h2 hA (bytes_cap hA hA2) hC (bytes_cap hC hC2) ?_
  intro B g u vl vm ad al am S M hB hB1 hB2 hle hu rd rl rm kS kM hM hS
  have htg := ht.le hle
  have hul := hu.len
  have hSs := hS.smallT
  have hMs := hM.smallT
  have hfst : ∀ {h' b}, g.le h' → b < B.length → CallsA Tryd.prog 16 (fun _ => [natV b]) [] h' (Ret fun v h2 => h'.le h2 ∧ ∃ c f, v = .agg #[c] ∧ SetF h2 [c] (fun _ => false) f ∧ Fresh h' f ∧ f.Nodup) := fun {h' b} hl hb =>
    c16 (G := [natV b]) ⟨⟨_, rfl⟩, trivial⟩ ⟨rfl, H.le_refl _, _, [], rfl, setF_nil, (fun z hz => by cases hz), List.nodup_nil⟩
  have hps : ∀ {h' b p c f}, g.le h' → b < B.length → SetF h' [c] p f → CallsA Tryd.prog 18 (fun _ => [natV b, .agg #[c], .pointer (some al), .pointer (some am)]) [] h' (Ret fun v h2 => h'.le h2 ∧ ∃ c' f', v = .agg #[c'] ∧ SetF h2 [c'] (passP S M b p) f' ∧ Fresh h' f' ∧ f'.Nodup) := fun {h' b p c f} hl hb hp =>
    s18 (htg.le hl) hb hSs hMs (rl.le hl) (rm.le hl) (MarkAt.le hl kS) (MarkAt.le hl kM) hp
  have hsolve : CallsA Tryd.prog 15 (fun _ => [.agg #[.int .i64 ((vlen u : Nat) : Int), aheadV back ad, .func (.func 16) #[] #[], .func (.func 17) #[] #[], .func (.func 18) #[] #[.pointer (some al), .pointer (some am)]]]) [] g
      (Ret fun r h' => g.le h' ∧ ∃ l fp, Solved (flS B back (fun _ _ => false) S M) l ∧ SlF 39 1 SetF h' r l fp ∧ Fresh g fp ∧ fp.Nodup) := by
    rw [hul]
    exact s15 (F := flS B back (fun _ _ => false) S M) (flS_good hB (fun {b} _ y hy => by cases hy) hMs)
      (flS_C htg rd hu hB (by omega) hSs hMs rl rm kS kM (.inr ⟨_, _, _, rfl⟩) (fun {h' b} hl hb => .of (enter (by decide)) (hfst hl hb)) (by decide) hps) (by show B.length ≤ 1000; omega) (z0 := fun _ => false) (fun _ => zero_set)
  refine h_call0 hsolve ?_
  rintro vg g2 ⟨l2, L, fg, hsol, hgot, hfg, hng⟩
  have hgl : vlen vg = L.length := SlF.len (by omega) hgot
  have hLl : L.length = B.length := hsol.len
  have hgfit : Fits .sl vg := by obtain ⟨L, fr, _, _, h4, _⟩ := hgot; exact h4.row0.fit
  refine ⟨[vg], ⟨hgfit, trivial⟩, rfl, ?_⟩
  simp only [List.cons_append, List.nil_append]
  refine h_ite (fun hc => ?_) (fun _ => ?_)
  · replace hc : cmpOp .neq ((vlen vg : Nat) : Int) ((vlen u : Nat) : Int) = true := hc
    rw [hgl, hLl, hul, cmp_neq] at hc
    simp at hc
  refine h_loop (fun xs h' => ∃ (n : Nat), xs = [natV n] ∧ n ≤ 20 ∧ g2.le h') (fun xs h' => 20 - (vi (gv xs 0)).toNat) ⟨0, rfl, Nat.zero_le _, H.le_refl _⟩ ?_
  rintro xs g3 J - ⟨n, rfl, hn, l3⟩ hJ
  simp only [List.cons_append, List.nil_append]
  refine h_ite (fun hc => ?_) (fun hc => ⟨rfl, hle.trans (l2.trans l3), rfl⟩)
  replace hc : cmpOp .lss (n : Int) 20 = true := hc
  rw [cmp_lss, decide_eq_true_eq] at hc
  have hn20 : n < 20 := by omega
  have hub : ∀ D : List Value, gv D 10 = u → vi ((X.len 10).den D) = (B.length : Int) := fun D e => by
    show vi (.int .i64 ((vlen (gv D 10) : Nat) : Int)) = _; rw [e, hul]; rfl
  refine ⟨by rw [hub _ rfl]; omega, by rw [hub _ rfl]; omega, fun bb hbb => ?_⟩
  rw [hub _ rfl, Int.toNat_natCast]
  have kb := mk_bools (n := B.length) hbb
  have l4 : g3.le (g3.put bb (.cells (repZ ((zeroCells Tryd.prog 4).getD []) B.length).toArray 4 (0, 0))) := H.le_put hbb
  generalize g3.put bb (.cells (repZ ((zeroCells Tryd.prog 4).getD []) B.length).toArray 4 (0, 0)) = g4 at kb l4 ⊢
  obtain ⟨vb, hvb⟩ : ∃ vb, vb = Value.slice (some ⟨bb, 0, none⟩) B.length B.length := ⟨_, rfl⟩
  have hvbl : vlen vb = B.length := by rw [hvb]; rfl
  rw [← hvb] at kb ⊢
  simp only [List.cons_append, List.nil_append]
  have K4 : BoolsSt g3 g4 vb (List.replicate B.length false) bb := ⟨kb, l4, fun z hz => by rw [List.mem_singleton] at hz; subst hz; exact hbb⟩
  refine h_loop (fun xs h' => ∃ (r : Nat) (at_ : List Bool), xs = [natV r] ∧ r ≤ B.length ∧ RI B back S M n r at_ ∧ BoolsSt g3 h' vb at_ bb)
    (fun xs h' => B.length - (vi (gv xs 0)).toNat) ⟨0, _, rfl, Nat.zero_le _, RI.zero, K4⟩ ?_
  rintro xs g5 J5 - ⟨r, a5, rfl, hr, R5, K5⟩ hJ5
  simp only [List.cons_append, List.nil_append]
  refine h_ite (fun hc5 => ?_) (fun hc5 => ?_)
  · replace hc5 : cmpOp .lss (r : Int) ((vlen u : Nat) : Int) = true := hc5
    rw [hul, cmp_lss, decide_eq_true_eq] at hc5
    refine h_loop (fun xs h' => ∃ (b : Nat) (at_ : List Bool), xs = [natV b] ∧ b ≤ B.length ∧ RIn B back S M n a5 b 0 at_ ∧ BoolsSt g3 h' vb at_ bb)
      (fun xs h' => B.length - (vi (gv xs 0)).toNat) ⟨0, a5, rfl, Nat.zero_le _, R5.begin, K5⟩ ?_
    rintro xs g6 J6 - ⟨b, a6, rfl, hb, R6, K6⟩ hJ6
    simp only [List.cons_append, List.nil_append]
    refine h_ite (fun hc6 => ?_) (fun hc6 => ?_)
    · replace hc6 : cmpOp .lss (b : Int) ((vlen u : Nat) : Int) = true := hc6
      rw [hul, cmp_lss, decide_eq_true_eq] at hc6
      have hbN : b < B.length := by omega
      have l6 : g.le g6 := l2.trans (l3.trans K6.le)
      refine h_callv (ahead_calls back (rd.le l6) (SlAt.le blkC_mono l6 hu) hB (by omega) hbN) ?_
      rintro v g7 ⟨l7, hv⟩
      refine ⟨[v], ⟨hv.ints.fit, trivial⟩, rfl, ?_⟩
      simp only [List.cons_append, List.nil_append]
      have hvl := hv.ints.len
      rw [List.length_map] at hvl
      have hfl := frmB_len back (B := B) (by omega) b
      obtain ⟨q, hq, hvq, K7⟩ := K6.beside l7 hv
      refine h_loop (fun xs h' => ∃ (j : Nat) (at_ : List Bool), xs = [natV j] ∧ j ≤ (frmB back B b).length ∧ RIn B back S M n a5 b j at_ ∧ BoolsSt q h' vb at_ bb)
        (fun xs h' => (frmB back B b).length - (vi (gv xs 0)).toNat) ⟨0, a6, rfl, Nat.zero_le _, R6, K7⟩ ?_
      rintro xs g8 J8 - ⟨j, a8, rfl, hj, R8, K8⟩ hJ8
      simp only [List.cons_append, List.nil_append]
      refine h_ite (fun hc8 => ?_) (fun hc8 => ?_)
      · have hc8' : cmpOp .lss (j : Int) ((vlen v : Nat) : Int) = true := hc8
        replace hc8 := hc8'
        rw [hvl, cmp_lss, decide_eq_true_eq] at hc8
        have hjl : j < (frmB back B b).length := by omega
        have hxa : (frmB back B b)[j]? = some (frmB back B b)[j] := List.getElem?_eq_getElem hjl
        have hxm : (frmB back B b)[j] ∈ frmB back B b := List.getElem_mem _
        generalize (frmB back B b)[j] = a at hxa hxm
        have haN := frmB_lt hB hxm
        have hxi : ((frmB back B b).map Int.ofNat)[j]? = some (a : Int) := by rw [List.getElem?_map, hxa]; rfl
        have l8 : g.le g8 := l2.trans (l3.trans (hq.trans K8.le))
        obtain ⟨w, hw⟩ : ∃ w, a8[a]? = some w := ⟨_, List.getElem?_eq_getElem (by rw [R8.len]; exact haN)⟩
        obtain ⟨um, hum, rum⟩ := (MarkAt.le l8 kM).row (hMs.get haN)
        obtain ⟨us, hus, rus⟩ := (MarkAt.le l8 kS).row (hSs.get haN)
        have hml : vlen vm = B.length := by rw [kM.len, hM.len]
        have hsl : vlen vl = B.length := by rw [kS.len, hS.len]
        have nd : ∀ {D : List Value} {q q' b : Nat} {vx : Value}, gv D q = natV b → gv D q' = vx → vlen vx = B.length → b < B.length → needs D [(.cmp .geq (.var q) (.lit 0)), (.cmp .lss (.var q) (.len q'))] := fun {D q q' b vx} e1 e2 e3 e4 => by
          simp only [needs, X.den, e1, e2, e3, vb_bool, vi_int, and_true]
          exact ⟨ge0 b, ltN e4⟩
        have lm : (rowAt M a).length ≤ 100000 := (hMs.2 (hMs.get haN)).2
        have ls : (rowAt S a).length ≤ 100000 := (hSs.2 (hSs.get haN)).2
        -- the next one
        have go : ∀ {D : List Value} {h' : H} {a9 : List Bool}, gv D 22 = natV j → RIn B back S M n a5 b (j + 1) a9 → BoolsSt q h' vb a9 bb → holds Tryd.prog (Ret fun r h' => h.le h' ∧ r = .bool true) (.again 3 [(.int .i64 (.op .add .i64 (.var 22) (.lit 1)))]) D ((List.take 3 ((List.take 2 ((List.take 1 (List.take 0 [] ++ [J])) ++ [J5])) ++ [J6])) ++ [J8]) h' := fun {D h' a9} e R K => by
          show J8 [.int .i64 (intOp .add .i64 (vi (gv D 22)) 1)] _
          rw [e, vi_int, int_add_one (n := 1000) (by omega) (by omega)]
          refine hJ8 _ _ ⟨j + 1, a9, rfl, by omega, R, K⟩ ?_
          simp only [gv_zero, vi_int]; omega
        have put : ∀ {D : List Value}, gv D 22 = natV j → gv D 20 = natV b → gv D 18 = vb → Cond S M n a8 a → holds Tryd.prog (Ret fun r h' => h.le h' ∧ r = .bool true) (.need (.tt true) [(.cmp .geq (.var 20) (.lit 0)), (.cmp .lss (.var 20) (.len 18))] 
              (.store (.idx (.var 18) (.var 20) 1) [(.bool (.tt true))] (.again 3 [(.int .i64 (.op .add .i64 (.var 22) (.lit 1)))]))) D ((List.take 3 ((List.take 2 ((List.take 1 (List.take 0 [] ++ [J])) ++ [J5])) ++ [J6])) ++ [J8]) g8 := fun {D} e1 e2 e3 hcd => by
          obtain ⟨w1, k1⟩ := K8.set (i := b) (by rw [R8.len]; exact hbN)
          refine ⟨fun _ => nd e2 e3 hvbl hbN, h_store ((vaddr vb).add (b * 1)) [.bool true] ?_ rfl w1 (go e1 (R8.put hbN hxa hcd) k1)⟩
          simp only [PE.den, X.den, e2, e3, vi_int, Int.toNat_natCast]
        refine ⟨fun _ => ⟨ge0 j, hc8', trivial⟩, h_load [natV a] ⟨⟨_, rfl⟩, trivial⟩ (fun _ => (hvq.le K8.le).read hxi) ?_⟩
        refine h_load [vm] ⟨kM.fit, trivial⟩ (fun _ => rm.le l8) ⟨fun _ => nd rfl rfl hml haN, h_load [um] ⟨hum.fit, trivial⟩ (fun _ => rum) ?_⟩
        simp only [List.cons_append, List.nil_append]
        refine h_call0 (s22 (n := (n : Int)) hum (by rw [List.length_map]; exact lm)) ?_
        rintro _ _ ⟨rfl, rfl⟩
        rw [In_nat]
        refine ⟨[.bool (decide (n ∈ rowAt M a))], ⟨⟨_, rfl⟩, trivial⟩, rfl, ?_⟩
        simp only [List.cons_append, List.nil_append]
        refine ⟨fun _ => nd rfl rfl hvbl haN, h_load [.bool w] ⟨⟨_, rfl⟩, trivial⟩ (fun _ => bools_read K8.1 hw) ?_⟩
        refine h_load [vl] ⟨kS.fit, trivial⟩ (fun _ => rl.le l8) ⟨fun _ => nd rfl rfl hsl haN, h_load [us] ⟨hus.fit, trivial⟩ (fun _ => rus) ?_⟩
        simp only [List.cons_append, List.nil_append]
        refine h_ite (fun e1 => ?_) (fun e1 => ?_)
        · replace e1 : (!decide (n ∈ rowAt M a)) = true := e1
          rw [Bool.not_eq_true', decide_eq_false_iff_not] at e1
          refine h_ite (fun e2 => ?_) (fun e2 => ?_)
          · replace e2 : w = true := e2
            subst e2
            refine h_call0 (s22 (n := (n : Int)) hus (by rw [List.length_map]; exact ls)) ?_
            rintro _ _ ⟨rfl, rfl⟩
            rw [In_nat]
            refine ⟨[.bool (decide (n ∈ rowAt S a))], ⟨⟨_, rfl⟩, trivial⟩, rfl, ?_⟩
            simp only [List.cons_append, List.nil_append]
            refine h_ite (fun e3 => ?_) (fun e3 => ?_)
            · replace e3 : (!decide (n ∈ rowAt S a)) = true := e3
              rw [Bool.not_eq_true', decide_eq_false_iff_not] at e3
              exact put rfl rfl rfl (.inr ⟨hw, e3⟩)
            · replace e3 : (!decide (n ∈ rowAt S a)) = false := e3
              rw [Bool.not_eq_false', decide_eq_true_eq] at e3
              exact go rfl (R8.skip hxa (by rintro (q | ⟨_, q⟩); exact e1 q; exact q e3)) K8
          · replace e2 : w = false := e2
            subst e2
            exact go rfl (R8.skip hxa (by rintro (q | ⟨q, _⟩); exact e1 q; rw [hw] at q; cases q)) K8
        · replace e1 : (!decide (n ∈ rowAt M a)) = false := e1
          rw [Bool.not_eq_false', decide_eq_true_eq] at e1
          exact put rfl rfl rfl (.inl e1)
      · replace hc8 : cmpOp .lss (j : Int) ((vlen v : Nat) : Int) = false := hc8
        rw [hvl, cmp_lss, decide_eq_false_iff_not] at hc8
        have hje : j = (frmB back B b).length := by omega
        subst hje
        show J6 [.int .i64 (intOp .add .i64 (b : Int) 1)] g8
        rw [int_add_one (n := 1000) (by omega) (by omega)]
        refine hJ6 _ _ ⟨b + 1, a8, rfl, by omega, R8.next, K8.weak hq⟩ ?_
        simp only [gv_zero, vi_int]; omega
    · replace hc6 : cmpOp .lss (b : Int) ((vlen u : Nat) : Int) = false := hc6
      rw [hul, cmp_lss, decide_eq_false_iff_not] at hc6
      have hbe : b = B.length := by omega
      subst hbe
      show J5 [.int .i64 (intOp .add .i64 (r : Int) 1)] g6
      rw [int_add_one (n := 1000) (by omega) (by omega)]
      refine hJ5 _ _ ⟨r + 1, a6, rfl, by omega, RIn.end_ R5 R6, K6⟩ ?_
      simp only [gv_zero, vi_int]; omega
  · replace hc5 : cmpOp .lss (r : Int) ((vlen u : Nat) : Int) = false := hc5
    rw [hul, cmp_lss, decide_eq_false_iff_not] at hc5
    have hre : r = B.length := by omega
    subst hre
    refine h_loop (fun xs h' => ∃ (b : Nat), xs = [natV b] ∧ b ≤ B.length ∧ g5 = h') (fun xs h' => B.length - (vi (gv xs 0)).toNat) ⟨0, rfl, Nat.zero_le _, rfl⟩ ?_
    rintro xs _ J6 - ⟨b, rfl, hb, rfl⟩ hJ6
    simp only [List.cons_append, List.nil_append]
    refine h_ite (fun hc6 => ?_) (fun hc6 => ?_)
    · replace hc6 : cmpOp .lss (b : Int) ((vlen u : Nat) : Int) = true := hc6
      rw [hul, cmp_lss, decide_eq_true_eq] at hc6
      have hbN : b < B.length := by omega
      obtain ⟨x, hx⟩ : ∃ x, L[b]? = some x := ⟨_, List.getElem?_eq_getElem (by rw [hLl]; exact hbN)⟩
      obtain ⟨w, hw⟩ : ∃ w, a5[b]? = some w := ⟨_, List.getElem?_eq_getElem (by rw [R5.len]; exact hbN)⟩
      obtain ⟨c, f, ⟨c', ws, ec, hsI, hws⟩, hcr, -⟩ := hgot.get1 hx
      obtain rfl : c = c' := by simpa using ec
      have l5 : g2.le g5 := l3.trans K5.le
      have hs5 : SetIs g5 c ws f := hsI.agree (le_agree' l5 hsI.live)
      have nd : ∀ {D : List Value} {q q' b : Nat} {vx : Value}, gv D q = natV b → gv D q' = vx → vlen vx = B.length → b < B.length → needs D [(.cmp .geq (.var q) (.lit 0)), (.cmp .lss (.var q) (.len q'))] := fun {D q q' b vx} e1 e2 e3 e4 => by
        simp only [needs, X.den, e1, e2, e3, vb_bool, vi_int, and_true]
        exact ⟨ge0 b, ltN e4⟩
      have same : x n = w := by
        rw [Bool.eq_iff_iff, R5.fin hw]
        exact ⟨fun q => way_der hsol.way hx q, fun q => der_in hB hsol q hx⟩
      refine ⟨fun _ => nd (vx := vg) rfl rfl (by rw [hgl, hLl]) hbN, h_load [c] ⟨hs5.fit, trivial⟩ (fun _ => hcr.le l5) ⟨fun _ => nd rfl rfl hvbl hbN, h_load [.bool w] ⟨⟨_, rfl⟩, trivial⟩ (fun _ => bools_read K5.1 hw) ?_⟩⟩
      simp only [List.cons_append, List.nil_append]
      refine h_call0 (s23 (x := n) (rowF_words hs5.1) hs5.2.1 (by omega)) ?_
      rintro _ g9 ⟨e9, rfl⟩
      have e9' := e9.symm
      subst e9'
      rw [hws, same]
      refine ⟨[.bool w], ⟨⟨_, rfl⟩, trivial⟩, rfl, fun _ => bools_read K5.1 hw, h_ite (fun hq => ?_) (fun _ => ?_)⟩
      · cases w <;> cases hq
      · show J6 [.int .i64 (intOp .add .i64 (b : Int) 1)] g5
        rw [int_add_one (n := 1000) (by omega) (by omega)]
        refine hJ6 _ _ ⟨b + 1, rfl, by omega, rfl⟩ ?_
        simp only [gv_zero, vi_int]; omega
    · show J [.int .i64 (intOp .add .i64 (n : Int) 1)] g5
      rw [int_add_one (n := 1000) (by omega) (by omega)]
      refine hJ _ _ ⟨n + 1, rfl, by omega, l3.trans K5.le⟩ ?_
      simp only [gv_zero, vi_int]; omega
namespace flowSets
theorem own : ownKnob Tryd.prog.godebug = none := by kernel_rfl
set_option maxRecDepth 100000 in
theorem laidOut : laidOutB Tryd.prog = true := by kernel_rfl
set_option maxRecDepth 100000 in
theorem contract (H : Type) (enc : TypeId × Value → H) (W : World) (base : Nat) (args : Array Value) (ds gs : List (DataW H)) (before : List MemPlace)
    (hval : ∀ (j : Nat) t v, Tryd.f3.params[j]? = some t → args[j]? = some v → Value.okWide Tryd.prog W .any base t v)
    (hW : DataW.Whole enc Tryd.prog Tryd.f3.params.toList Rows.flowSetsSpec.vars false W args.toList ds gs before) (hL : laidMetH Tryd.prog laid1 W) :
    Calls Tryd.prog 3 args W fun e W' => ∃ v, e = .returned v ∧ Rows.flowSetsSpec.post enc Tryd.prog Tryd.f3 false true false false W args v W' := by
  have hW' := hW
  obtain ⟨p, q, hA, hV, rfl, hfz, hnd⟩ := hW
  rw [Tryd.params3] at hA hval
  obtain ⟨v0, vs0, d0, ds0, p0, q0, hargs, rfl, rfl, h0, r0⟩ := trodAll_cons hA
  obtain ⟨v1, vs1, d1, ds1, p1, q1, rfl, rfl, rfl, h1, r1⟩ := trodAll_cons r0
  obtain ⟨v2, vs2, d2, ds2, p2, q2, rfl, rfl, rfl, h2, r2⟩ := trodAll_cons r1
  obtain ⟨v3, vs3, d3, ds3, p3, q3, rfl, rfl, rfl, h3, r3⟩ := trodAll_cons r2
  obtain ⟨rfl, rfl, rfl⟩ := trodAll_nil r3
  obtain rfl : args = #[v0, v1, v2, v3] := by cases args; simp_all
  obtain ⟨cs0, rfl, -⟩ := okWide_struct Tryd.underlying24 (hval 0 24 v0 rfl rfl)
  obtain ⟨p0, p1, p2, vs, l, he0, g0, g1, g2, hs⟩ := rd_spec (Rd.of h0)
  obtain rfl : cs0 = ([Value.int .u8 p0, .int .u8 p1, .int .u8 p2, vs]).toArray := by rw [← he0]; simp [Value.cells]
  obtain ⟨a1, n1, c1, rfl⟩ := okWide_slice Tryd.underlying22 (hval 1 22 v1 rfl rfl)
  obtain ⟨av, al, he1, hav, hac⟩ := rd_bytes (Rd.of h1)
  obtain rfl : Value.slice a1 n1 c1 = av := by simpa [Value.cells] using he1
  obtain ⟨a2, n2, c2, rfl⟩ := okWide_slice Tryd.underlying22 (hval 2 22 v2 rfl rfl)
  obtain ⟨kv, kl, he2, hkv, hkc⟩ := rd_bytes (Rd.of h2)
  obtain rfl : Value.slice a2 n2 c2 = kv := by simpa [Value.cells] using he2
  obtain ⟨bk, rfl, -⟩ := open_bool Tryd.underlying4 (hval 3 4 v3 rfl rfl) h3
  refine (law_calls (f := 3) (args := [.agg ([Value.int .u8 p0, .int .u8 p1, .int .u8 p2, vs]).toArray, .slice a1 n1 c1, .slice a2 n2 c2, .bool bk]) (s3 (tab_of hL) hs g0 g1 g2 hav hac hkv hkc)).mono ?_
  rintro e' W' ⟨rfl, bel⟩
  exact ⟨_, rfl, law_post laidOut hW' rfl (of_decide_eq_true (by kernel_rfl)) rfl Tryd.underlying4 rfl bel⟩
set_option maxRecDepth 100000 in
theorem lifted (os : Os) (started : os.Started) (H : Type) (enc : TypeId × Value → H) :
    ReturnsInHanded {} Tryd.checked os 3 .any (fun w args => (Rows.flowSetsSpec.pre enc Tryd.prog Tryd.f3 [] false w args ∧ laidMetH Tryd.prog laid1 w) ∧ sizedMet enc Tryd.prog Tryd.f3 (OpenSpec.ofChange Rows.flowSetsSpec) false w args)
      (Rows.flowSetsSpec.post enc Tryd.prog Tryd.f3 false true false false) := by
  refine returnsInHanded_of_change_and (C := Tryd.checked) (X := fun w _ => laidMetH Tryd.prog laid1 w) (fun _ _ _ hh h => h.of_heap hh) own started (by kernel_rfl) Tryd.func3
    (ChangeSpec.witness_shaped (enc := enc) (C := Tryd.checked) (os := os) (X := fun w _ => laidMetH Tryd.prog laid1 w) false (World.laidAll Tryd.prog os laid1) #[.agg #[.int .u8 0, .int .u8 0, .int .u8 0, .slice none 0 0], .slice none 0 0, .slice none 0 0, .bool false] 8 (World.laidAll_os _ _ _)
      (World.shaped_of_ZipB (by kernel_rfl) (by kernel_rfl)) (by kernel_rfl) (by kernel_rfl) (by kernel_rfl)
      (by rw [MakeChecks.laidMetH_plain _ _ _ (by kernel_rfl)]; exact laidMet_laidAll _ (by kernel_rfl) (by kernel_rfl))) ?_
  intro W base args ds gs before hval hW _ _ hL _
  exact contract H enc W base args ds gs before hval hW hL
set_option maxRecDepth 100000 in
theorem proved : Rows.FlowSetsSaid :=
  OpenClaim.holds_of_wide 3 Tryd.f3 rfl rfl rfl rfl rfl rfl rfl ⟨rfl, rfl, rfl, rfl, rfl⟩ rfl rfl rfl rfl rfl (by kernel_rfl) Tryd.func3 (by kernel_rfl)
    (of_decide_eq_true (by kernel_rfl)) (by unfold Func.isWrapper; first | (rw [if_pos (by decide +kernel)]; kernel_rfl) | (rw [if_neg (by decide +kernel)]; exact ⟨rfl, rfl⟩))
    (fun os started H enc _ => lifted os started H enc)
set_option maxRecDepth 100000 in
theorem card : Rows.FlowSetsCardSaid :=
  Claim7.holds_tied_plain_at .later [] [.data] true (true, "8ff38404af680b550b91fe5fd74526250c7ed431e07fb59fa8b09eeffdac340c") false proved (fun _ h => by cases h) (by kernel_rfl) (fun _ h => by cases h) flowSets_row_tie rfl ⟨rfl, rfl⟩ (by kernel_rfl) rfl
    (fun f fn hf hfn => by
      obtain rfl : f = 3 := Option.some.inj ((show Tryd.prog.funcNamed "outworker/outworkerlaw11.FlowSets" = some 3 by kernel_rfl).symm.trans hf) |>.symm
      obtain rfl : fn = Tryd.f3 := (Option.some.inj (Tryd.func3.symm.trans hfn)).symm
      exact ⟨by kernel_rfl, fun j t ht => by
        rw [Tryd.params3] at ht
        have hm : t ∈ [24, 22, 22, 4] := by simpa using Array.mem_of_getElem? ht
        have hall : ([24, 22, 22, 4].all fun u => !Tryd.prog.wantsStandIn u) = true := by kernel_rfl
        exact (show Tryd.prog.wantsStandIn t = false by simpa using List.all_eq_true.1 hall t hm)⟩)
    (by kernel_rfl)
end flowSets
/-- The row, under a short name, for the claim. -/
theorem flowSetsHolds : Rows.FlowSetsCardSaid := flowSets.card
#print axioms flowSetsHolds
end Go.Proofs.YtbbicdfipheaeaaDoor
