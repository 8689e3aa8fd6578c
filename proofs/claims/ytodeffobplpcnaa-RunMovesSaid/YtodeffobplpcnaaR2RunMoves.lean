/-
  The law RunMoves answers true. Conditions: none.
-/
import Derived.Test.YtodeffobplpcnaaR2Q
import Derived.Test.YtodeffobplpcnaaR2Lvb
import Derived.Test.YtodeffobplpcnaaPc
import Derived.Test.YtodeffobplpcnaaRows
set_option linter.unusedVariables false
set_option linter.unusedSimpArgs false
namespace Go.Proofs.Ytodeffobplpcnaa
open Go Go.ChangeShapes Go.WideShapes Go.ChangeAt Go.RowKit

/-- What is behind the first store. -/
def Out.aft : Out → Out
  | .store _ _ k => k
  | .need _ _ k => k.aft
  | .load _ _ _ k => k.aft
  | .bnd _ k => k.aft
  | .still _ _ _ k => k.aft
  | .alloc _ _ _ k => k.aft
  | .app _ _ _ _ _ k => k.aft
  | .ite _ _ b => b.aft
  | .both a _ => a.aft
  | o => o
/-- A function with a move of a vreg to itself put in: the same run. -/
theorem moves_run {V i k : Nat} {B : List Blk} {x : Blk} {g : Int} {args mem ans : List Int} {fuel : Int} {t t2 : Rs} (hx : B[i]? = some x) (hk : k ≤ x.ins.length) (hok : ∀ z ∈ B, BlOk (V : Int) ((V + 0 : Nat) : Int) B.length z)
    (hg : inN (V : Int) g) (hal : args.length ≤ V) (h : Runs B V 0 0 (start V 0 args mem ans fuel) t) (h2 : Runs (B.set i (insB x k [spillI 2 g g])) V 0 0 (start V 0 args mem ans fuel) t2) : SameO t t2 := by
  have e0 : ∀ {s : Rs} {w : List Int}, w.length = 0 → extS s w = s := fun {s w} hw => by
    have : w = [] := List.eq_nil_of_length_eq_zero hw
    subst this; unfold extS; simp
  have hs : RelX V 0 (start V 0 args mem ans fuel) (start V 0 args mem ans fuel) := ⟨places0_len (by omega), [], rfl, (e0 rfl).symm⟩
  obtain ⟨t', h3, h4⟩ := Runs.ins0 (Rel := RelX V 0) (R' := (V : Int)) (ys := [spillI 2 g g]) hx hk
    (fun {z y s s'} hz hy hr => RelX.step (by have := (hok z hz).ins y hy; simpa using this) (.inl rfl) hr)
    (fun {z s s'} hz hr => RelX.fin (by have := (hok z hz).en.1; simpa using this) (hok z hz).kd hr)
    (fun {s s'} ⟨hn, w, hw, e⟩ => ⟨s', ⟨hn, w, hw, e⟩, by rw [e, e0 hw]; exact move_steps hg hn⟩) h hs
  have := h4.same h2
  subst this
  obtain ⟨-, w, -, rfl⟩ := h3
  exact ⟨rfl, rfl, rfl, rfl, rfl⟩
theorem move_ok {g V : Int} (hg : 0 ≤ g ∧ g < V) : ofM (spillI 2 g g) V = 0 := by
  simp [ofM, spillI, plainM, namedM, usesM, inR, hg.1, hg.2]
  intro x hx
  have hx' : x ∈ [g] := hx
  rw [List.mem_singleton] at hx'
  subst hx'; exact hg
set_option maxRecDepth 20000 in
theorem pick_holds {h g2 g3 : H} {vs av mv nv u v : Value} {p0 p1 p2 fuel c8 c9 c10 : Int} {args mem ans : List Int} {P V : Nat} {B : List Blk} {fq : List Nat} (b8 : 0 ≤ c8 ∧ c8 ≤ 255) (b9 : 0 ≤ c9 ∧ c9 ≤ 255) (b10 : 0 ≤ c10 ∧ c10 ≤ 255)
    (ha : IntsAt h av args) (hm : IntsAt h mv mem) (hn : IntsAt h nv ans) (hl2 : h.le g2) (hl23 : g2.le g3) (hu : BlksAt g2 u B) (own : OwnBlks g3 v B fq) (nd : fq.Nodup) (hfq : Fresh g2 fq)
    (hPl : P ≤ 4) (hVl : V ≤ 31) (hV1 : 1 ≤ V) (hPV : P ≤ V) (hck : checkM (P : Int) (V : Int) B = (0, 0, 0)) (hok : ∀ z ∈ B, BlOk (V : Int) ((V + 0 : Nat) : Int) B.length z) (hb1 : 1 ≤ B.length) (hb2 : B.length ≤ 16) :
    holds Try.prog (Ret fun r h' => h.le h' ∧ r = .bool true) pick7 [.int .u8 p0, .int .u8 p1, .int .u8 p2, vs, av, mv, nv, .int .i64 fuel, .int .u8 c8, .int .u8 c9, .int .u8 c10, .bool true, .int .i64 (P : Int), .int .i64 (V : Int), u, .int .i64 (P : Int), .int .i64 (V : Int), v] [] g3 := by
  obtain ⟨-, -, hpart⟩ := checkM_zeroR (p := P) (n := V) (bs := B) (by rw [hck])
  have hl3 := hl2.trans hl23
  have hvl := own.len (by omega)
  obtain ⟨i, hi⟩ : ∃ i, i = bI c8 B.length := ⟨_, rfl⟩
  have hBl : 0 < B.length := by omega
  have hib : i < B.length := by rw [hi]; exact bI_lt b8.1 hBl
  have hx : B[i]? = some B[i] := List.getElem?_eq_getElem hib
  have hxm : B[i] ∈ B := List.getElem_mem _
  generalize B[i] = x at hx hxm
  obtain ⟨hx1, hx2, hx3⟩ := hpart x hxm
  obtain ⟨cc, f, L1, L2, fr, KL⟩ := own.lens hx
  obtain ⟨w, rfl, hw⟩ := KL.rep
  have hwl := hw.len (by omega)
  have hwfit := (SlF.at (sz := 7) (Rep := InsC) (Nat.zero_lt_succ 6) insF_at hw).fit
  have hwr : Reads g3 ((vaddr v).add (i * 5 + 0)) [w] := KL.reads fun j u hj => by obtain ⟨rfl, rfl⟩ := get_one hj; rfl
  have hwc : x.ins.length ≤ vcap w := by
    obtain ⟨a, n, c, rfl, _, h3⟩ := hwfit
    simp only [vlen_sl, vcap_sl] at hwl ⊢; omega
  obtain ⟨k, hk⟩ : ∃ k, k = bI c9 (x.ins.length + 1) := ⟨_, rfl⟩
  have hkl : k ≤ x.ins.length := by have := bI_lt (m := x.ins.length + 1) b9.1 (by omega); omega
  obtain ⟨g, hg⟩ : ∃ g, g = bI c10 V := ⟨_, rfl⟩
  have hgR : g < V := by rw [hg]; exact bI_lt b10.1 (by omega)
  have pb : ∀ {G : List Value}, gv G 17 = v → gv G 8 = .int .u8 c8 → PE.den G (.fld (.idx (.var 17) (RX 8 17) 5) 0) = (vaddr v).add (i * 5 + 0) := fun {G} e20 e9 => by
    have := rx_val (G := G) (a := 8) (l := 17) (m := B.length) e9 (by rw [e20]; exact hvl) b8 hBl
    simp only [PE.den, e20, this, Int.toNat_natCast, add_add, ← hi]
  have rb : ∀ {h' : H}, g3.le h' → ∀ {G : List Value}, gv G 17 = v → gv G 8 = .int .u8 c8 → Reads h' ((PE.fld (.idx (.var 17) (RX 8 17) 5) 0).den G) [w] := fun kk G e20 e9 => by rw [pb e20 e9]; exact hwr.le kk
  refine ⟨fun _ => need_len (l := 17) (m := B.length) hvl hBl, fun _ => need_rx (a := 8) (l := 17) (m := B.length) rfl hvl b8 hBl, h_load [w] ⟨hwfit, trivial⟩ (fun _ => rb (fun _ _ e => e) rfl rfl) ⟨fun _ => need_len1 (l := 18) (m := x.ins.length) hwl (by omega), fun _ => need_var (j := 16) (z := (V : Int)) rfl (by omega), h_load [w] ⟨hwfit, trivial⟩ (fun _ => rb (fun _ _ e => e) rfl rfl) ?_⟩⟩
  simp only [List.cons_append, List.nil_append]
  refine h_ite (fun _ => ⟨rfl, hl3, rfl⟩) (fun h32 => ?_)
  replace h32 : cmpOp .geq ((vlen w : Nat) : Int) 32 = false := h32
  rw [hwl, cmp_geq, decide_eq_false_iff_not] at h32
  refine h_load [w] ⟨hwfit, trivial⟩ (fun _ => rb (fun _ _ e => e) rfl rfl) ⟨fun _ => need_cap (a := 9) (l := 18) (j := 20) (m := x.ins.length) rfl hwl b9 (by omega) hwc, ?_⟩
  intro z1 hz1
  replace hz1 := hz1.trans (lo_val (a := 9) (l := 18) (j := 20) (m := x.ins.length) rfl hwl b9 (by omega))
  replace hz1 : z1 = sliceV w 0 k 7 := by rw [hz1, hk]; rfl
  subst hz1
  refine h_load [w] ⟨hwfit, trivial⟩ (fun _ => rb (fun _ _ e => e) rfl rfl) ⟨fun _ => need_hi (a := 9) (l := 18) (j := 22) (m := x.ins.length) rfl hwl b9 (by omega) hwl, ?_⟩
  intro z2 hz2
  replace hz2 := hz2.trans (hi_val (a := 9) (l := 18) (j := 22) (m := x.ins.length) rfl hwl b9 (by omega))
  replace hz2 : z2 = sliceV w k x.ins.length 7 := by rw [hz2, hk, ← hwl]; rfl
  subst hz2
  simp only [List.cons_append, List.nil_append]
  have hsrc : ∀ (e : Value) (D : List Value), SV.denL ([.int .u8 p0, .int .u8 p1, .int .u8 p2, vs, av, mv, nv, .int .i64 fuel, .int .u8 c8, .int .u8 c9, .int .u8 c10, .bool true, .int .i64 (P : Int), .int .i64 (V : Int), u, .int .i64 (P : Int), .int .i64 (V : Int), v, w, w, w, sliceV w 0 k 7, w, sliceV w k x.ins.length 7, e] ++ D) dE
      [(.int .u8 (.lit 2)), (.int .u8 (.lit 0)), (.int .i64 (.op .rem .i64 (.conv .i64 (.var 10)) (.var 16))), (.int .i64 (.op .rem .i64 (.conv .i64 (.var 10)) (.var 16))), (.int .i64 (.lit 0)), (.int .i64 (.lit 0)), (.cst (.slice none 0 0))] = ysC [spillI 2 g g] := fun e D => by
    have e1 := rxv_val (G := [.int .u8 p0, .int .u8 p1, .int .u8 p2, vs, av, mv, nv, .int .i64 fuel, .int .u8 c8, .int .u8 c9, .int .u8 c10, .bool true, .int .i64 (P : Int), .int .i64 (V : Int), u, .int .i64 (P : Int), .int .i64 (V : Int), v, w, w, w, sliceV w 0 k 7, w, sliceV w k x.ins.length 7, e] ++ D) (a := 10) (j := 16) (m := V) rfl rfl b10 (by omega)
    rw [← hg] at e1
    simp only [RXv] at e1
    simp only [SV.denL, SV.den, e1]
    rfl
  -- what is left behind the store
  have fin : ∀ (e : Value) (g5 : H) (fp' : List Nat) (D : List Value), D.length = 3 → OwnBlks g5 v (B.set i ⟨x.ins.take k ++ [spillI 2 g g] ++ x.ins.drop k, x.en⟩) fp' → fp'.Nodup → KeptH g3 g5 fq → (∀ b ∈ fp', b ∈ fq ∨ g3 b = none) →
      holds Try.prog (Ret fun r h' => h.le h' ∧ r = .bool true) (Out.aft pick7) ([.int .u8 p0, .int .u8 p1, .int .u8 p2, vs, av, mv, nv, .int .i64 fuel, .int .u8 c8, .int .u8 c9, .int .u8 c10, .bool true, .int .i64 (P : Int), .int .i64 (V : Int), u, .int .i64 (P : Int), .int .i64 (V : Int), v, w, w, w, sliceV w 0 k 7, w, sliceV w k x.ins.length 7, e] ++ D) [] g5 := fun e g5 fp' D hD own5 nd5 hk5 hf5 => by
    have hl25 : g2.le g5 := hk5.le hl23 hfq
    have hl5 := hl2.trans hl25
    have hB5 := SlAt.le blkC_mono hl25 hu
    have own5' := own5.at
    obtain ⟨Z, hZ⟩ : ∃ Z, Z = [Value.int .u8 p0, .int .u8 p1, .int .u8 p2, vs, av, mv, nv, .int .i64 fuel, .int .u8 c8, .int .u8 c9, .int .u8 c10, .bool true, .int .i64 (P : Int), .int .i64 (V : Int), u, .int .i64 (P : Int), .int .i64 (V : Int), v, w, w, w, sliceV w 0 k 7, w, sliceV w k x.ins.length 7, e] ++ D := ⟨_, rfl⟩
    rw [← hZ]
    have hZl : Z.length = 28 := by rw [hZ]; simp [hD]
    have z : ∀ (E : List Value), gv (Z ++ E) 4 = av ∧ gv (Z ++ E) 5 = mv ∧ gv (Z ++ E) 6 = nv ∧ gv (Z ++ E) 7 = .int .i64 fuel ∧ gv (Z ++ E) 12 = .int .i64 (P : Int) ∧ gv (Z ++ E) 13 = .int .i64 (V : Int) ∧ gv (Z ++ E) 14 = u ∧ gv (Z ++ E) 15 = .int .i64 (P : Int) ∧ gv (Z ++ E) 16 = .int .i64 (V : Int) ∧ gv (Z ++ E) 17 = v := fun E => by
      refine ⟨?_, ?_, ?_, ?_, ?_, ?_, ?_, ?_, ?_, ?_⟩ <;> (rw [gv_of_lt (by omega), hZ, gv_of_lt (by simp)]; rfl)
    clear hZ
    refine h_call0 (Q := fun r h' => ∃ u m' n', r = .agg #[u, m', n', .int .i64 (fuelM fuel)] ∧ g5.le h' ∧ IntsAt h' u (inArgs args P) ∧ IntsAt h' m' (mem.take 100) ∧ IntsAt h' n' (ans.take 100)) ?_ ?_
    · have := s17 (p := P) (fuel := fuel) (ha.le hl5) (hm.le hl5) (hn.le hl5) (by omega)
      have zz := z []
      rw [List.append_nil] at zz
      obtain ⟨z5, z6, z7, z8, z13, -⟩ := zz
      simp only [SV.denL, SV.den, X.den]
      rw [z5, z6, z7, z8, z13]
      exact this
    rintro _ g6 ⟨u', m', n', rfl, hl6, iu, im, inn⟩
    refine ⟨[u', m', n', .int .i64 (fuelM fuel)], ⟨iu.fit, im.fit, inn.fit, ⟨_, rfl⟩, trivial⟩, rfl, ?_⟩
    have hfr := fuelM_range fuel
    obtain ⟨A, hA⟩ : ∃ A, A = Z ++ [u', m', n', .int .i64 (fuelM fuel)] := ⟨_, rfl⟩
    rw [← hA]
    have hAl : A.length = 32 := by rw [hA]; simp [hZl]
    have hin : ∀ D : List Value, gv (A ++ D) 28 = u' ∧ gv (A ++ D) 29 = m' ∧ gv (A ++ D) 30 = n' ∧ gv (A ++ D) 31 = .int .i64 (fuelM fuel) := fun D => by
      rw [hA, List.append_assoc]
      exact ⟨gv_at (j := 0) (by omega), gv_at (j := 1) (by omega), gv_at (j := 2) (by omega), gv_at (j := 3) (by omega)⟩
    have z' : ∀ D : List Value, gv (A ++ D) 12 = .int .i64 (P : Int) ∧ gv (A ++ D) 13 = .int .i64 (V : Int) ∧ gv (A ++ D) 14 = u ∧ gv (A ++ D) 15 = .int .i64 (P : Int) ∧ gv (A ++ D) 16 = .int .i64 (V : Int) ∧ gv (A ++ D) 17 = v := fun D => by
      rw [hA, List.append_assoc]; exact (z _).2.2.2.2
    refine h_callO2 (Q := fun t e h' => g6.le h' ∧ CallsOk t ∧ RunSpec P V B (inArgs args P) (mem.take 100) (ans.take 100) (fuelM fuel) e t) ?_ ?_
    · have := s18 (p := P) (n := V) (fuel := fuelM fuel) (SlAt.le blkC_mono hl6 hB5) iu im inn
      obtain ⟨x1, x2, x3, x4⟩ := hin []
      obtain ⟨y1, y2, y3, -⟩ := z' []
      rw [List.append_nil] at x1 x2 x3 x4 y1 y2 y3
      simp only [SV.denL, SV.den, X.den]
      rw [x1, x2, x3, x4, y1, y2, y3]
      exact this.post fun r h' q => q
    rintro t er cv g7 m1 cc1 ⟨hl7, hco, hsp⟩
    obtain ⟨rfl, hrun⟩ := run_made hck hfr (inArgs_len args P) hsp
    refine h_callO2 (Q := fun t2 e2 h' => g7.le h' ∧ CallsOk t2 ∧ RunSpec P V (B.set i (insB x k [spillI 2 g g])) (inArgs args P) (mem.take 100) (ans.take 100) (fuelM fuel) e2 t2) ?_ ?_
    · have := s18 (p := P) (n := V) (fuel := fuelM fuel) (SlAt.le blkC_mono (hl6.trans hl7) own5') (iu.le hl7) (im.le hl7) (inn.le hl7)
      obtain ⟨x1, x2, x3, x4⟩ := hin (outC t cv ++ [.int .i64 0])
      obtain ⟨-, -, -, y5, y6, y7⟩ := z' (outC t cv ++ [.int .i64 0])
      simp only [SV.denL, SV.den, X.den]
      rw [x1, x2, x3, x4, y5, y6, y7]
      exact this.post fun r h' q => q
    rintro t2 e2 cv2 g8 m2 cc2 ⟨hl8, hco2, hsp2⟩
    have hck2 : checkM (P : Int) (V : Int) (B.set i (insB x k [spillI 2 g g])) = (0, 0, 0) := by
      unfold checkM
      rw [if_neg (by rw [List.length_set]; omega), List.length_set]
      refine blkF_ok fun zb hz => ?_
      rcases List.mem_or_eq_of_mem_set hz with q | rfl
      · exact hpart zb q
      · refine ⟨?_, fun y hy => ?_, hx3⟩
        · simp only [insB, List.length_append, List.length_take, List.length_drop, List.length_cons, List.length_nil]; omega
        · simp only [insB, List.mem_append, List.mem_cons, List.not_mem_nil, or_false] at hy
          rcases hy with (q | rfl) | q
          · exact hx2 y (List.mem_of_mem_take q)
          · exact move_ok ⟨by omega, by omega⟩
          · exact hx2 y (List.mem_of_mem_drop q)
    obtain ⟨rfl, hrun2⟩ := run_made hck2 hfr (inArgs_len args P) hsp2
    have hso := moves_run (i := i) (k := k) (x := x) (g := (g : Int)) hx hkl hok ⟨by omega, by omega⟩ (by rw [inArgs_len]; omega) hrun hrun2
    have eG : A ++ (outC t cv ++ [Value.int .i64 0]) ++ (outC t2 cv2 ++ [.int .i64 0]) = A ++ (outC t cv ++ ([.int .i64 0] ++ (outC t2 cv2 ++ [.int .i64 0]))) := by simp
    have hAl2 : (A ++ (outC t cv ++ [Value.int .i64 0])).length = 101 := by simp [hAl, outC_len m1]
    have f1 := gOe (A := A) (B := [Value.int .i64 0] ++ (outC t2 cv2 ++ [.int .i64 0])) (cv := cv) (j := 0) hAl m1
    rw [← eG] at f1
    have f2 := gOe (A := A ++ (outC t cv ++ [.int .i64 0])) (B := [.int .i64 0]) (cv := cv2) (j := 0) hAl2 m2
    refine iteT (both_ok f1 f2) ?_
    refine h_same (A := A) (M := [.int .i64 0]) (D := [.int .i64 0]) eG m1 m2 (SlAt.le callC_mono hl8 cc1) cc2 hso hco (by rw [hAl]; rfl) (by rw [hAl]; rfl) ?_
    refine ⟨rfl, ((hl5.trans hl6).trans hl7).trans hl8, ?_⟩
    have hGl : (A ++ (outC t cv ++ [Value.int .i64 0]) ++ (outC t2 cv2 ++ [Value.int .i64 0])).length = 170 := by simp [hAl, outC_len m1, outC_len m2]
    simp only [SV.den, X.den]
    rw [gv_at (j := 0) (by omega)]; rfl
  have hy1 : ∀ y ∈ [spillI 2 (g : Int) (g : Int)], y.args = [] := by intro y hy; rw [List.mem_singleton] at hy; subst hy; rfl
  have ch : ∀ (b0 : Nat), g3 b0 = none → True := fun _ _ => trivial
  have rk : ∀ {h' : H} {G : List Value}, KeptH g3 h' [] → gv G 17 = v → gv G 8 = .int .u8 c8 → Reads h' ((PE.fld (.idx (.var 17) (RX 8 17) 5) 0).den G) [w] := fun kk e1 e2 => rb kk.le_nil e1 e2
  refine ⟨fun b0 hb0 => ⟨fun _ => rk (KeptH.put hb0 _) rfl rfl, fun _ => rk (KeptH.put hb0 _) rfl rfl, ?_, ?_⟩, fun _ => rk (KeptH.refl _ _) rfl rfl, fun _ => rk (KeptH.refl _ _) rfl rfl, fun b0 hb0 => ?_⟩
  · exact ins_chainG nd KL hkl (ys := [spillI 2 g g]) hy1 (by simp) (msrc := .cells _ 1) (by omega) hb0 (n := 20) [] [22, 20, 22, 20] [22, 20] [22, 20] rfl rfl rfl rfl rfl rfl (fun D => pb rfl rfl) (fun D h' hk' => ⟨(hsrc _ _).symm, rfl⟩) (by simp) (fin _)
  · exact ins_chainG nd KL hkl (ys := [spillI 2 g g]) hy1 (by simp) (msrc := .cells _ 1) (by omega) hb0 (n := 20) [22, 20] [22, 20] [22, 20] [22, 20] rfl rfl rfl rfl rfl rfl (fun D => pb rfl rfl) (fun D h' hk' => ⟨(hsrc _ _).symm, rfl⟩) (by simp) (fin _)
  · exact ins_chainG nd KL hkl (ys := [spillI 2 g g]) hy1 (by simp) (msrc := .cells _ 1) (by omega) hb0 (n := 20) [22, 20] [22, 20] [22, 20] [22, 20] rfl rfl rfl rfl rfl rfl (fun D => pb rfl rfl) (fun D h' hk' => ⟨(hsrc _ _).symm, rfl⟩) (by simp) (fin _)
set_option maxRecDepth 20000 in
theorem s7 {h : H} {vs av mv nv : Value} {p0 p1 p2 fuel c8 c9 c10 : Int} {l args mem ans : List Int} (hs : BytesAt h vs l) (h0 : 0 ≤ p0) (h1 : 0 ≤ p1) (h2 : 0 ≤ p2) (ha : IntsAt h av args) (hm : IntsAt h mv mem) (hn : IntsAt h nv ans)
    (b8 : 0 ≤ c8 ∧ c8 ≤ 255) (b9 : 0 ≤ c9 ∧ c9 ≤ 255) (b10 : 0 ≤ c10 ∧ c10 ≤ 255) :
    CallsA Try.prog 7 (fun _ => [.agg #[.int .u8 p0, .int .u8 p1, .int .u8 p2, vs], .agg #[av, mv, nv, .int .i64 fuel], .int .u8 c8, .int .u8 c9, .int .u8 c10]) [] h (Ret fun r h' => h.le h' ∧ r = .bool true) := by
  refine c7 (G := [.int .u8 p0, .int .u8 p1, .int .u8 p2, vs, av, mv, nv, .int .i64 fuel, .int .u8 c8, .int .u8 c9, .int .u8 c10]) ⟨⟨_, rfl⟩, ⟨_, rfl⟩, ⟨_, rfl⟩, hs.fit, ha.fit, hm.fit, hn.fit, ⟨_, rfl⟩, ⟨_, rfl⟩, ⟨_, rfl⟩, ⟨_, rfl⟩, trivial⟩ ?_
  refine h_call0 s15 ?_
  rintro _ g1 ⟨hl1, rfl⟩
  refine ⟨[.bool true], ⟨⟨_, rfl⟩, trivial⟩, rfl, h_ite (fun hc => by cases hc) (fun _ => ?_)⟩
  have F := made_fun h0 h1 h2 hs.inB
  have hV1 := (madeV_range h0 h1).1
  obtain ⟨P, V, hP, hV, hPl, hVl, hPV, hck, hok, hb1, hb2⟩ := F
  simp only [List.cons_append, List.nil_append]
  -- the second call
  have L1 : ∀ (k : Out) (g2 : H) (u : Value), g1.le g2 → BlksAt g2 u (madeB p0 p1 p2 l) →
      (∀ (g3 : H) (v : Value) (fq : List Nat), g2.le g3 → OwnBlks g3 v (madeB p0 p1 p2 l) fq → fq.Nodup → Fresh g2 fq → holds Try.prog (Ret fun r h' => h.le h' ∧ r = .bool true) k [.int .u8 p0, .int .u8 p1, .int .u8 p2, vs, av, mv, nv, .int .i64 fuel, .int .u8 c8, .int .u8 c9, .int .u8 c10, .bool true, .int .i64 (P : Int), .int .i64 (V : Int), u, .int .i64 (P : Int), .int .i64 (V : Int), v] [] g3) →
      holds Try.prog (Ret fun r h' => h.le h' ∧ r = .bool true) (.call 16 [(.agg [(.int .u8 (.var 0)), (.int .u8 (.var 1)), (.int .u8 (.var 2)), (.val 3)])] [] [] [] [(true, [.int .i64, .int .i64, .sl])] k)
        [.int .u8 p0, .int .u8 p1, .int .u8 p2, vs, av, mv, nv, .int .i64 fuel, .int .u8 c8, .int .u8 c9, .int .u8 c10, .bool true, .int .i64 (P : Int), .int .i64 (V : Int), u] [] g2 := fun k g2 u hl12 hu hk => by
    refine h_call0 (s16 (p0 := p0) (p1 := p1) (p2 := p2) ((hs.le hl1).le hl12) h0 h1 h2) ?_
    rintro _ g3 ⟨hk3, v, fq, rfl, hv, hfq, hnd⟩
    refine ⟨[.int .i64 (madeP p0), .int .i64 (madeV p0 p1), v], ⟨⟨_, rfl⟩, ⟨_, rfl⟩, hv.at.fit, trivial⟩, rfl, ?_⟩
    rw [hP, hV]
    exact hk g3 v fq hk3.le_nil hv hnd hfq
  have L0 : ∀ (k : Out), (∀ (g2 : H) (u : Value), g1.le g2 → BlksAt g2 u (madeB p0 p1 p2 l) → holds Try.prog (Ret fun r h' => h.le h' ∧ r = .bool true) k [.int .u8 p0, .int .u8 p1, .int .u8 p2, vs, av, mv, nv, .int .i64 fuel, .int .u8 c8, .int .u8 c9, .int .u8 c10, .bool true, .int .i64 (P : Int), .int .i64 (V : Int), u] [] g2) →
      holds Try.prog (Ret fun r h' => h.le h' ∧ r = .bool true) (.call 16 [(.agg [(.int .u8 (.var 0)), (.int .u8 (.var 1)), (.int .u8 (.var 2)), (.val 3)])] [] [] [] [(true, [.int .i64, .int .i64, .sl])] k)
        [.int .u8 p0, .int .u8 p1, .int .u8 p2, vs, av, mv, nv, .int .i64 fuel, .int .u8 c8, .int .u8 c9, .int .u8 c10, .bool true] [] g1 := fun k hk => by
    refine h_call0 (s16 (p0 := p0) (p1 := p1) (p2 := p2) (hs.le hl1) h0 h1 h2) ?_
    rintro _ g2 ⟨hk2, u, fp, rfl, hu, -, -⟩
    refine ⟨[.int .i64 (madeP p0), .int .i64 (madeV p0 p1), u], ⟨⟨_, rfl⟩, ⟨_, rfl⟩, hu.at.fit, trivial⟩, rfl, ?_⟩
    rw [hP, hV]
    exact hk g2 u hk2.le_nil hu.at
  have LP : ∀ (g2 : H) (u : Value), g1.le g2 → BlksAt g2 u (madeB p0 p1 p2 l) → ∀ (g3 : H) (v : Value) (fq : List Nat), g2.le g3 → OwnBlks g3 v (madeB p0 p1 p2 l) fq → fq.Nodup → Fresh g2 fq → holds Try.prog (Ret fun r h' => h.le h' ∧ r = .bool true) pick7 [.int .u8 p0, .int .u8 p1, .int .u8 p2, vs, av, mv, nv, .int .i64 fuel, .int .u8 c8, .int .u8 c9, .int .u8 c10, .bool true, .int .i64 (P : Int), .int .i64 (V : Int), u, .int .i64 (P : Int), .int .i64 (V : Int), v] [] g3 := fun g2 u hl12 hu g3 v fq hl23 own nd hfq =>
    pick_holds b8 b9 b10 ha hm hn (hl1.trans hl12) hl23 hu own nd hfq hPl hVl (by omega) hPV hck hok hb1 hb2
  have one : ∀ (g2 : H) (u : Value) (a : g1.le g2) (b : BlksAt g2 u (madeB p0 p1 p2 l)), _ := fun g2 u a b => L1 pick7 g2 u a b (LP g2 u a b)
  have two : ∀ (g2 : H) (u : Value) (a : g1.le g2) (b : BlksAt g2 u (madeB p0 p1 p2 l)), _ := fun g2 u a b => L1 (.both pick7 pick7) g2 u a b (fun g3 v fq c d e f => ⟨LP g2 u a b g3 v fq c d e f, LP g2 u a b g3 v fq c d e f⟩)
  refine ⟨L0 _ fun g2 u a b => ⟨two g2 u a b, ⟨one g2 u a b, one g2 u a b⟩, one g2 u a b, one g2 u a b⟩, ⟨L0 _ fun g2 u a b => ⟨one g2 u a b, one g2 u a b⟩, L0 _ fun g2 u a b => one g2 u a b⟩, L0 _ fun g2 u a b => ⟨one g2 u a b, one g2 u a b⟩, L0 _ fun g2 u a b => one g2 u a b⟩
namespace runMoves
theorem own : ownKnob Try.prog.godebug = none := by kernel_rfl
set_option maxRecDepth 100000 in
theorem laidOut : laidOutB Try.prog = true := by kernel_rfl
set_option maxRecDepth 100000 in
theorem contract (H : Type) (enc : TypeId × Value → H) (W : World) (base : Nat) (args : Array Value) (ds gs : List (DataW H)) (before : List MemPlace)
    (hval : ∀ (j : Nat) t v, Try.f7.params[j]? = some t → args[j]? = some v → Value.okWide Try.prog W .any base t v)
    (hW : DataW.Whole enc Try.prog Try.f7.params.toList Rows.runMovesSpec.vars false W args.toList ds gs before) :
    Calls Try.prog 7 args W fun e W' => ∃ v, e = .returned v ∧ Rows.runMovesSpec.post enc Try.prog Try.f7 false true false false W args v W' := by
  have hW' := hW
  obtain ⟨p, q, hA, hV, rfl, hfz, hnd⟩ := hW
  rw [Try.params7] at hA hval
  obtain ⟨v0, vs0, d0, ds0, p0, q0, hargs, rfl, rfl, h0, r0⟩ := trodAll_cons hA
  obtain ⟨v1, vs1, d1, ds1, p1, q1, rfl, rfl, rfl, h1, r1⟩ := trodAll_cons r0
  obtain ⟨v2, vs2, d2, ds2, p2, q2, rfl, rfl, rfl, h2, r2⟩ := trodAll_cons r1
  obtain ⟨v3, vs3, d3, ds3, p3, q3, rfl, rfl, rfl, h3, r3⟩ := trodAll_cons r2
  obtain ⟨v4, vs4, d4, ds4, p4, q4, rfl, rfl, rfl, h4, r4⟩ := trodAll_cons r3
  obtain ⟨rfl, rfl, rfl⟩ := trodAll_nil r4
  obtain rfl : args = #[v0, v1, v2, v3, v4] := by cases args; simp_all
  obtain ⟨cs0, rfl, -⟩ := okWide_struct Try.underlying24 (hval 0 24 v0 rfl rfl)
  obtain ⟨p0, p1, p2, vs, l, he0, g0, g1, g2, hs⟩ := rd_spec (Rd.of h0)
  obtain rfl : cs0 = ([Value.int .u8 p0, .int .u8 p1, .int .u8 p2, vs]).toArray := by rw [← he0]; simp [Value.cells]
  obtain ⟨cs1, rfl, -⟩ := okWide_struct Try.underlying27 (hval 1 27 v1 rfl rfl)
  obtain ⟨av, mv, nv, fuel, args, mem, ans, he1, ha, hm, hn⟩ := rd_input (Rd.of h1)
  obtain rfl : cs1 = ([av, mv, nv, Value.int .i64 fuel]).toArray := by rw [← he1]; simp [Value.cells]
  obtain ⟨c8, rfl, -, -, wf2⟩ := open_int Try.underlying5 (hval 2 5 v2 rfl rfl) h2
  obtain ⟨c9, rfl, -, -, wf3⟩ := open_int Try.underlying5 (hval 3 5 v3 rfl rfl) h3
  obtain ⟨c10, rfl, -, -, wf4⟩ := open_int Try.underlying5 (hval 4 5 v4 rfl rfl) h4
  refine (law_calls (f := 7) (args := [.agg ([Value.int .u8 p0, .int .u8 p1, .int .u8 p2, vs]).toArray, .agg ([av, mv, nv, Value.int .i64 fuel]).toArray, .int .u8 c8, .int .u8 c9, .int .u8 c10]) (s7 hs g0 g1 g2 ha hm hn (u8r wf2) (u8r wf3) (u8r wf4))).mono ?_
  rintro e' W' ⟨rfl, bel⟩
  exact ⟨_, rfl, law_post laidOut hW' rfl (of_decide_eq_true (by kernel_rfl)) rfl Try.underlying4 rfl bel⟩
set_option maxRecDepth 100000 in
theorem lifted (os : Os) (started : os.Started) (H : Type) (enc : TypeId × Value → H) :
    ReturnsInHanded {} Try.checked os 7 .any (Rows.runMovesSpec.pre6 enc Try.prog Try.f7 Rows.runMovesRow.domain false) (Rows.runMovesSpec.post enc Try.prog Try.f7 false true false false) := by
  refine returnsInHanded_of_change (C := Try.checked) own started (by kernel_rfl) Try.func7
    (ChangeSpec.witness6 (enc := enc) (C := Try.checked) false ⟨#[], #[.agg #[.int .u8 0, .int .u8 0, .int .u8 0, .slice none 0 0], .agg #[.slice none 0 0, .slice none 0 0, .slice none 0 0, .int .i64 0], .int .u8 0, .int .u8 0, .int .u8 0], []⟩ 8 (by kernel_rfl) (by kernel_rfl) (by kernel_rfl) (by kernel_rfl)) ?_
  intro W base args ds gs before hval hW _ _
  exact contract H enc W base args ds gs before hval hW
set_option maxRecDepth 100000 in
theorem proved : Rows.RunMovesSaid :=
  OpenClaim.holds_of_wide 7 Try.f7 rfl rfl rfl rfl rfl rfl rfl ⟨rfl, rfl, rfl, rfl, rfl⟩ rfl rfl rfl rfl rfl (by kernel_rfl) Try.func7 (by kernel_rfl)
    (of_decide_eq_true (by kernel_rfl)) (by unfold Func.isWrapper; first | (rw [if_pos (by decide +kernel)]; kernel_rfl) | (rw [if_neg (by decide +kernel)]; exact ⟨rfl, rfl⟩))
    (fun os started H enc _ => lifted os started H enc)
end runMoves
/-- The row, under a short name, for the claim. -/
theorem runMovesHolds : Rows.RunMovesSaid := runMoves.proved
#print axioms runMovesHolds
end Go.Proofs.Ytodeffobplpcnaa
