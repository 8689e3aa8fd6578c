/-
  The law ExecSlots answers true. Conditions: none.
-/
import Derived.Test.YtodeffobplpcnaaR2Q
import Derived.Test.YtodeffobplpcnaaPc
import Derived.Test.YtodeffobplpcnaaRows
set_option linter.unusedVariables false
set_option linter.unusedSimpArgs false
namespace Go.Proofs.Ytodeffobplpcnaa
open Go Go.ChangeShapes Go.WideShapes Go.ChangeAt Go.RowKit

theorem places0_succ {n first : Nat} {args : List Int} (h : first + args.length ≤ n) : places0 (n + 1) first args = places0 n first args ++ [0] := by
  unfold places0
  rw [show n + 1 - first - args.length = (n - first - args.length) + 1 by omega, List.replicate_succ', ← List.append_assoc]
/-- Code with a register spilled and filled again: the same run. -/
theorem slots_run {N S i k : Nat} {B : List Blk} {x : Blk} {g : Int} {args mem ans : List Int} {fuel : Int} {t t2 : Rs} (hx : B[i]? = some x) (hk : k ≤ x.ins.length) (hok : ∀ z ∈ B, BlOk (N : Int) ((N + S : Nat) : Int) B.length z)
    (hg : inN ((N + S : Nat) : Int) g) (hal : N + args.length ≤ N + S) (h : Runs B N 0 0 (start (N + S) N args mem ans fuel) t) (h2 : Runs (B.set i (insB x k [spillI 7 S g, spillI 8 g S])) N 0 0 (start (N + (S + 1)) N args mem ans fuel) t2) : SameO t t2 := by
  have hs : RelX (N + S) 1 (start (N + S) N args mem ans fuel) (start (N + (S + 1)) N args mem ans fuel) := by
    refine ⟨places0_len (by omega), [0], rfl, ?_⟩
    unfold start extS
    simp only
    rw [show N + (S + 1) = N + S + 1 by omega, places0_succ (by omega)]
  obtain ⟨t', h3, h4⟩ := Runs.ins0 (Rel := RelX (N + S) 1) (R' := (N : Int)) (ys := [spillI 7 S g, spillI 8 g S]) hx hk
    (fun {z y s s'} hz hy hr => RelX.step ((hok z hz).ins y hy) (.inl rfl) hr)
    (fun {z s s'} hz hr => RelX.fin (hok z hz).en.1 (hok z hz).kd hr)
    (fun {s s'} ⟨hn, w, hw, e⟩ => ⟨extS s [getP s g], ⟨hn, _, rfl, rfl⟩, by rw [e]; exact pair_steps hg hn hw⟩) h hs
  have := h4.same h2
  subst this
  obtain ⟨-, w, -, rfl⟩ := h3
  exact ⟨rfl, rfl, rfl, rfl, rfl⟩
set_option maxRecDepth 20000 in
theorem s13 {h : H} {vs av mv nv : Value} {p0 p1 p2 rg fuel c9 c10 c11 : Int} {l args mem ans : List Int} (hs : BytesAt h vs l) (h0 : 0 ≤ p0) (h1 : 0 ≤ p1) (h2 : 0 ≤ p2) (ha : IntsAt h av args) (hm : IntsAt h mv mem) (hn : IntsAt h nv ans)
    (hr : 0 ≤ rg ∧ rg ≤ 255) (b9 : 0 ≤ c9 ∧ c9 ≤ 255) (b10 : 0 ≤ c10 ∧ c10 ≤ 255) (b11 : 0 ≤ c11 ∧ c11 ≤ 255) :
    CallsA Try.prog 13 (fun _ => [.agg #[.int .u8 p0, .int .u8 p1, .int .u8 p2, vs], .int .u8 rg, .agg #[av, mv, nv, .int .i64 fuel], .int .u8 c9, .int .u8 c10, .int .u8 c11]) [] h (Ret fun r h' => h.le h' ∧ r = .bool true) := by
  refine c13 (G := [.int .u8 p0, .int .u8 p1, .int .u8 p2, vs, .int .u8 rg, av, mv, nv, .int .i64 fuel, .int .u8 c9, .int .u8 c10, .int .u8 c11]) ⟨⟨_, rfl⟩, ⟨_, rfl⟩, ⟨_, rfl⟩, hs.fit, ⟨_, rfl⟩, ha.fit, hm.fit, hn.fit, ⟨_, rfl⟩, ⟨_, rfl⟩, ⟨_, rfl⟩, ⟨_, rfl⟩, trivial⟩ ?_
  refine h_call0 s29 ?_
  rintro _ g1 ⟨hl1, rfl⟩
  refine ⟨[.bool true], ⟨⟨_, rfl⟩, trivial⟩, rfl, h_ite (fun hc => by cases hc) (fun _ => h_call0 (s26 (p0 := p0) (p1 := p1) (p2 := p2) (rg := rg) (sl := 0) (hs.le hl1) (SlAt.nil : BytesAt _ (.slice none 0 0) []) h0 h1 h2 hr ⟨Int.le_refl _, by omega⟩) ?_)⟩
  rintro _ g2 ⟨u, B, fp, rfl, M, mB⟩
  have hl2 := hl1.trans M.kept.le_nil
  obtain ⟨P, R, S, hP, hR, hS, q1, q2, q3, q4, q5, q6, hck, hok, hb1, hb2⟩ := made_code h0 h2 hr ⟨Int.le_refl _, by omega⟩ M
  refine ⟨[.int .i64 (madeP p0), .int .i64 (mR rg), .int .i64 (mS (madeP p0) 0), u], ⟨⟨_, rfl⟩, ⟨_, rfl⟩, ⟨_, rfl⟩, M.own.at.fit, trivial⟩, rfl, ?_⟩
  refine h_call0 (s26 (p0 := p0) (p1 := p1) (p2 := p2) (rg := rg) (sl := 0) (hs.le hl2) (SlAt.nil : BytesAt _ (.slice none 0 0) []) h0 h1 h2 hr ⟨Int.le_refl _, by omega⟩) ?_
  rintro _ g3 ⟨v, B', fq, rfl, M2, mB2⟩
  obtain rfl : B' = B := (mB2 rfl).trans (mB rfl).symm
  have hN := madeN_range h2
  have hsm := M.small hN
  have hMok := M.ok
  have hMl := M.len
  refine ⟨[.int .i64 (madeP p0), .int .i64 (mR rg), .int .i64 (mS (madeP p0) 0), v], ⟨⟨_, rfl⟩, ⟨_, rfl⟩, ⟨_, rfl⟩, M2.own.at.fit, trivial⟩, rfl, ?_⟩
  have hl3 := hl2.trans M2.kept.le_nil
  have hB3 := SlAt.le blkC_mono M2.kept.le_nil M.own.at
  have hvl := M2.own.len (by omega)
  rw [hP, hR, hS] at *
  simp only [List.cons_append, List.nil_append]
  obtain ⟨i, hi⟩ : ∃ i, i = bI c9 B'.length := ⟨_, rfl⟩
  have hib : i < B'.length := by rw [hi]; exact bI_lt b9.1 (by omega)
  have hx : B'[i]? = some B'[i] := List.getElem?_eq_getElem hib
  have hxm : B'[i] ∈ B' := List.getElem_mem _
  generalize B'[i] = x at hx hxm
  obtain ⟨hx1, hx2, hx3⟩ := hMok x hxm
  obtain ⟨cc, f, L1, L2, fr, KL⟩ := M2.own.lens hx
  obtain ⟨w, rfl, hw⟩ := KL.rep
  have hwl := hw.len (by omega)
  have hwfit := (SlF.at (sz := 7) (Rep := InsC) (Nat.zero_lt_succ 6) insF_at hw).fit
  have hwr : Reads g3 ((vaddr v).add (i * 5 + 0)) [w] := KL.reads fun j u hj => by obtain ⟨rfl, rfl⟩ := get_one hj; rfl
  have hwc : x.ins.length ≤ vcap w := by
    obtain ⟨a, n, c, rfl, _, h3⟩ := hwfit
    simp only [vlen_sl, vcap_sl] at hwl ⊢; omega
  obtain ⟨k, hk⟩ : ∃ k, k = bI c10 (x.ins.length + 1) := ⟨_, rfl⟩
  have hkl : k ≤ x.ins.length := by have := bI_lt (m := x.ins.length + 1) b10.1 (by omega); omega
  obtain ⟨g, hg⟩ : ∃ g, g = bI c11 R := ⟨_, rfl⟩
  have hgR : g < R := by rw [hg]; exact bI_lt b11.1 (by omega)
  have hBl : 0 < B'.length := by omega
  have pb : ∀ {G : List Value}, gv G 20 = v → gv G 9 = .int .u8 c9 → PE.den G (.fld (.idx (.var 20) (RX 9 20) 5) 0) = (vaddr v).add (i * 5 + 0) := fun {G} e20 e9 => by
    have := rx_val (G := G) (a := 9) (l := 20) (m := B'.length) e9 (by rw [e20]; exact hvl) b9 hBl
    simp only [PE.den, e20, this, Int.toNat_natCast, add_add, ← hi]
  have rb : ∀ {h' : H}, g3.le h' → ∀ {G : List Value}, gv G 20 = v → gv G 9 = .int .u8 c9 → Reads h' ((PE.fld (.idx (.var 20) (RX 9 20) 5) 0).den G) [w] := fun kk G e20 e9 => by rw [pb e20 e9]; exact hwr.le kk
  refine ⟨fun _ => need_len (l := 20) (m := B'.length) hvl hBl, fun _ => need_rx (a := 9) (l := 20) (m := B'.length) rfl hvl b9 hBl, h_load [w] ⟨hwfit, trivial⟩ (fun _ => rb (fun _ _ e => e) rfl rfl) ⟨fun _ => need_len1 (l := 21) (m := x.ins.length) hwl (by omega), fun _ => need_var (j := 18) (z := (R : Int)) rfl (by omega), ?_⟩⟩
  simp only [List.cons_append, List.nil_append]
  refine h_alloc (ysC [spillI 7 S g, spillI 8 g S]) ?_ fun pb0 hpb0 => ?_
  · have e1 := rxv_val (G := [.int .u8 p0, .int .u8 p1, .int .u8 p2, vs, .int .u8 rg, av, mv, nv, .int .i64 fuel, .int .u8 c9, .int .u8 c10, .int .u8 c11, .bool true, .int .i64 (P : Int), .int .i64 (R : Int), .int .i64 (S : Int), u, .int .i64 (P : Int), .int .i64 (R : Int), .int .i64 (S : Int), v, w]) (a := 11) (j := 18) (m := R) rfl rfl b11 (by omega)
    have e2 : vi ((X.op .sub .i64 (.op .add .i64 (.var 19) (.lit 1)) (.lit 1)).den [.int .u8 p0, .int .u8 p1, .int .u8 p2, vs, .int .u8 rg, av, mv, nv, .int .i64 fuel, .int .u8 c9, .int .u8 c10, .int .u8 c11, .bool true, .int .i64 (P : Int), .int .i64 (R : Int), .int .i64 (S : Int), u, .int .i64 (P : Int), .int .i64 (R : Int), .int .i64 (S : Int), v, w]) = (S : Int) := by
      show intOp .sub .i64 (intOp .add .i64 (S : Int) 1) 1 = _
      simp only [intOp]
      rw [wrap_i64 (n := (S : Int) + 1) (by omega) (by omega), wrap_i64 (by omega) (by omega)]; omega
    rw [← hg] at e1
    simp only [RXv] at e1
    simp only [SV.denL, SV.den, e1, e2]
    rfl
  have hk0 : KeptH g3 (g3.put pb0 (.cells (ysC [spillI 7 S g, spillI 8 g S]).toArray 71 (0, 0))) [] := KeptH.put hpb0 _
  have hsrc : SlSrc (g3.put pb0 (.cells (ysC [spillI 7 S g, spillI 8 g S]).toArray 71 (0, 0))) (ysC [spillI 7 S g, spillI 8 g S]) 2 (NK.val pb0 (.lsl 2)) := by
    refine ⟨rfl, ?_⟩
    have := Reads.put (h := g3) (b := pb0) (l := ysC [spillI 7 S g, spillI 8 g S]) (e := 71) (o := 0) (cs := ysC [spillI 7 S g, spillI 8 g S]) (fun j v hj => by rw [Nat.zero_add]; exact hj)
    rw [add_zero'] at this; exact this
  have KL4 := KL.agree blkF_good (hk0.agree (M2.own.live blkF_good) (fun b _ hf => by cases hf))
  have hl34 := hk0.le_nil
  obtain ⟨pv, hpv⟩ : ∃ pv, pv = NK.val pb0 (.lsl 2) := ⟨_, rfl⟩
  rw [← hpv] at hsrc ⊢
  generalize g3.put pb0 (.cells (ysC [spillI 7 S g, spillI 8 g S]).toArray 71 (0, 0)) = g4 at hk0 hsrc KL4 hl34 ⊢
  refine h_load [w] ⟨hwfit, trivial⟩ (fun _ => rb hl34 rfl rfl) ⟨fun _ => need_cap (a := 10) (l := 21) (j := 23) (m := x.ins.length) rfl hwl b10 (by omega) hwc, ?_⟩
  intro z1 hz1
  replace hz1 := hz1.trans (lo_val (a := 10) (l := 21) (j := 23) (m := x.ins.length) rfl hwl b10 (by omega))
  replace hz1 : z1 = sliceV w 0 k 7 := by rw [hz1, hk]; rfl
  subst hz1
  refine h_load [w] ⟨hwfit, trivial⟩ (fun _ => rb hl34 rfl rfl) ⟨fun _ => need_hi (a := 10) (l := 21) (j := 25) (m := x.ins.length) rfl hwl b10 (by omega) hwl, ?_⟩
  intro z2 hz2
  replace hz2 := hz2.trans (hi_val (a := 10) (l := 21) (j := 25) (m := x.ins.length) rfl hwl b10 (by omega))
  replace hz2 : z2 = sliceV w k x.ins.length 7 := by rw [hz2, hk, ← hwl]; rfl
  subst hz2
  simp only [List.cons_append, List.nil_append]
  intro b0 hb0
  have fq4 : Fresh g2 fq := M2.fresh
  refine ins_chainG M2.nd KL4 hkl (ys := [spillI 7 S g, spillI 8 g S]) (by intro y hy; simp only [List.mem_cons, List.not_mem_nil, or_false] at hy; rcases hy with rfl | rfl <;> rfl) (by simp) (msrc := .sl (.val 22)) (by omega) hb0 (n := 23) [25, 23] [25, 23] [25, 23] [25, 23] rfl rfl rfl rfl rfl rfl (fun D => pb rfl rfl) (fun D h' hk' => src_ok (v := pv) rfl (hsrc.le hk'.le_nil) rfl ?_) (by simp) ?_
  · intro v hv
    simp only [ysC, List.flatMap_cons, List.flatMap_nil, List.append_nil, insC, List.cons_append, List.nil_append, List.mem_cons, List.not_mem_nil, or_false] at hv
    rcases hv with rfl | rfl | rfl | rfl | rfl | rfl | rfl | rfl | rfl | rfl | rfl | rfl | rfl | rfl <;> rfl
  intro g5 fp' D hD own5 nd5 hk5 hf5
  have hl25 : g2.le g5 := hk5.le (M2.kept.le_nil.trans hl34) M2.fresh
  have hl5 := hl2.trans hl25
  have hB5 := SlAt.le blkC_mono hl25 M.own.at
  have own5' := own5.at
  obtain ⟨Z, hZ⟩ : ∃ Z, Z = [Value.int .u8 p0, .int .u8 p1, .int .u8 p2, vs, .int .u8 rg, av, mv, nv, .int .i64 fuel, .int .u8 c9, .int .u8 c10, .int .u8 c11, .bool true, .int .i64 (P : Int), .int .i64 (R : Int), .int .i64 (S : Int), u, .int .i64 (P : Int), .int .i64 (R : Int), .int .i64 (S : Int), v, w, pv, w, sliceV w 0 k 7, w, sliceV w k x.ins.length 7, .slice (some ⟨b0, 0, none⟩) 0 0] ++ D := ⟨_, rfl⟩
  have eZ : [Value.int .u8 p0, .int .u8 p1, .int .u8 p2, vs, .int .u8 rg, av, mv, nv, .int .i64 fuel, .int .u8 c9, .int .u8 c10, .int .u8 c11, .bool true, .int .i64 (P : Int), .int .i64 (R : Int), .int .i64 (S : Int), u, .int .i64 (P : Int), .int .i64 (R : Int), .int .i64 (S : Int), v, w, pv, w, sliceV w 0 k 7, w, sliceV w k x.ins.length 7, NK.val b0 (.lsl 0)] ++ D = Z := by rw [hZ]; rfl
  have eZ' : Z = Z := rfl
  show holds Try.prog _ _ ([Value.int .u8 p0, .int .u8 p1, .int .u8 p2, vs, .int .u8 rg, av, mv, nv, .int .i64 fuel, .int .u8 c9, .int .u8 c10, .int .u8 c11, .bool true, .int .i64 (P : Int), .int .i64 (R : Int), .int .i64 (S : Int), u, .int .i64 (P : Int), .int .i64 (R : Int), .int .i64 (S : Int), v, w, pv, w, sliceV w 0 k 7, w, sliceV w k x.ins.length 7, .slice (some ⟨b0, 0, none⟩) 0 0] ++ D) _ _
  rw [← hZ]
  have hZl : Z.length = 31 := by rw [hZ]; simp [hD]
  have z : ∀ (E : List Value), gv (Z ++ E) 5 = av ∧ gv (Z ++ E) 6 = mv ∧ gv (Z ++ E) 7 = nv ∧ gv (Z ++ E) 8 = .int .i64 fuel ∧ gv (Z ++ E) 13 = .int .i64 (P : Int) ∧ gv (Z ++ E) 14 = .int .i64 (R : Int) ∧ gv (Z ++ E) 15 = .int .i64 (S : Int) ∧ gv (Z ++ E) 16 = u ∧ gv (Z ++ E) 17 = .int .i64 (P : Int) ∧ gv (Z ++ E) 18 = .int .i64 (R : Int) ∧ gv (Z ++ E) 19 = .int .i64 (S : Int) ∧ gv (Z ++ E) 20 = v := fun E => by
    refine ⟨?_, ?_, ?_, ?_, ?_, ?_, ?_, ?_, ?_, ?_, ?_, ?_⟩ <;> (rw [gv_of_lt (by omega), hZ, gv_of_lt (by simp)]; rfl)
  clear eZ eZ' hZ
  refine h_call0 (Q := fun r h' => ∃ u m' n', r = .agg #[u, m', n', .int .i64 (fuelM fuel)] ∧ g5.le h' ∧ IntsAt h' u (inArgs args P) ∧ IntsAt h' m' (mem.take 100) ∧ IntsAt h' n' (ans.take 100)) ?_ ?_
  · have := s17 (p := P) (fuel := fuel) (ha.le hl5) (hm.le hl5) (hn.le hl5) (by omega)
    have zz := z []
    rw [List.append_nil] at zz
    obtain ⟨z5, z6, z7, z8, z13, -⟩ := zz
    simp only [SV.denL, SV.den, X.den]
    rw [z5, z6, z7, z8, z13]
    exact this
  rintro _ g6 ⟨u', m', n', rfl, hl6, iu, im, inn⟩
  refine ⟨[u', m', n', .int .i64 (fuelM fuel)], ⟨iu.fit, im.fit, inn.fit, ⟨_, rfl⟩, trivial⟩, rfl, ?_⟩
  have hfr := fuelM_range fuel
  obtain ⟨A, hA⟩ : ∃ A, A = Z ++ [u', m', n', .int .i64 (fuelM fuel)] := ⟨_, rfl⟩
  rw [← hA]
  have hAl : A.length = 35 := by rw [hA]; simp [hZl]
  have hin : ∀ D : List Value, gv (A ++ D) 31 = u' ∧ gv (A ++ D) 32 = m' ∧ gv (A ++ D) 33 = n' ∧ gv (A ++ D) 34 = .int .i64 (fuelM fuel) := fun D => by
    rw [hA, List.append_assoc]
    exact ⟨gv_at (j := 0) (by omega), gv_at (j := 1) (by omega), gv_at (j := 2) (by omega), gv_at (j := 3) (by omega)⟩
  have z' : ∀ D : List Value, gv (A ++ D) 13 = .int .i64 (P : Int) ∧ gv (A ++ D) 14 = .int .i64 (R : Int) ∧ gv (A ++ D) 15 = .int .i64 (S : Int) ∧ gv (A ++ D) 16 = u ∧ gv (A ++ D) 17 = .int .i64 (P : Int) ∧ gv (A ++ D) 18 = .int .i64 (R : Int) ∧ gv (A ++ D) 19 = .int .i64 (S : Int) ∧ gv (A ++ D) 20 = v := fun D => by
    rw [hA, List.append_assoc]; exact (z _).2.2.2.2
  refine h_callO2 (Q := fun t e h' => g6.le h' ∧ CallsOk t ∧ ExecSpec P R S B' (inArgs args P) (mem.take 100) (ans.take 100) (fuelM fuel) e t) ?_ ?_
  · have := s30 (p := P) (r := R) (s := S) (fuel := fuelM fuel) (SlAt.le blkC_mono hl6 hB5) iu im inn
    obtain ⟨x1, x2, x3, x4⟩ := hin []
    obtain ⟨y1, y2, y3, y4, -⟩ := z' []
    rw [List.append_nil] at x1 x2 x3 x4 y1 y2 y3 y4
    simp only [SV.denL, SV.den, X.den]
    rw [x1, x2, x3, x4, y1, y2, y3, y4]
    exact this.post fun r h' q => q
  rintro t e cv g7 m1 cc1 ⟨hl7, hco, hsp⟩
  obtain ⟨rfl, hrun⟩ := exec_made hck hfr (inArgs_len args P) hsp
  refine h_callO2 (Q := fun t2 e2 h' => g7.le h' ∧ CallsOk t2 ∧ ExecSpec P R ((S + 1 : Nat) : Int) (B'.set i (insB x k [spillI 7 S g, spillI 8 g S])) (inArgs args P) (mem.take 100) (ans.take 100) (fuelM fuel) e2 t2) ?_ ?_
  · have := s30 (p := P) (r := R) (s := ((S + 1 : Nat) : Int)) (fuel := fuelM fuel) (SlAt.le blkC_mono (hl6.trans hl7) own5') (iu.le hl7) (im.le hl7) (inn.le hl7)
    have ef : intOp .add .i64 (S : Int) 1 = ((S + 1 : Nat) : Int) := by
      simp only [intOp]; rw [wrap_i64 (by omega) (by omega)]; rfl
    obtain ⟨x1, x2, x3, x4⟩ := hin (outC t cv ++ [.int .i64 0])
    obtain ⟨-, -, -, -, y5, y6, y7, y8⟩ := z' (outC t cv ++ [.int .i64 0])
    simp only [SV.denL, SV.den, X.den]
    rw [x1, x2, x3, x4, y5, y6, y7, y8]
    simp only [vi_int]
    rw [ef]
    exact this.post fun r h' q => q
  rintro t2 e2 cv2 g8 m2 cc2 ⟨hl8, hco2, hsp2⟩
  have hck2 : mcheckM (P : Int) (R : Int) ((S + 1 : Nat) : Int) (B'.set i (insB x k [spillI 7 S g, spillI 8 g S])) = (0, 0, 0) := by
    refine mcheck_ok (n := 72) (by omega) (by omega) (by omega) (by omega) (by omega) (by omega) (by rw [List.length_set]; omega) (by rw [List.length_set]; omega) (by omega) fun z hz => ?_
    rw [List.length_set]
    have old : ∀ z ∈ B', (∀ y ∈ z.ins, mofM y R ((S + 1 : Nat) : Int) = 0 ∧ y.args.length ≤ 1000) ∧ z.ins.length ≤ 70 ∧ endM z.en R B'.length 21 = 0 := fun z hz => by
      obtain ⟨o1, o2, o3⟩ := hMok z hz
      refine ⟨fun y hy => ⟨?_, (o2 y hy).2⟩, o1, ?_⟩
      · have := (o2 y hy).1
        push_cast; exact mofM_succ this
      · rw [hMl]; exact o3
    rcases List.mem_or_eq_of_mem_set hz with q | rfl
    · obtain ⟨o1, o2, o3⟩ := old z q
      exact ⟨by omega, o1, o3⟩
    · obtain ⟨o1, o2, o3⟩ := old x hxm
      refine ⟨?_, fun y hy => ?_, o3⟩
      · simp only [insB, List.length_append, List.length_take, List.length_drop, List.length_cons, List.length_nil]; omega
      · simp only [insB, List.mem_append, List.mem_cons, List.not_mem_nil, or_false] at hy
        rcases hy with (q | rfl | rfl) | q
        · exact o1 y (List.mem_of_mem_take q)
        · exact ⟨spill_ok (by omega) (by omega), by simp [spillI]⟩
        · exact ⟨fill_ok (by omega) (by omega), by simp [spillI]⟩
        · exact o1 y (List.mem_of_mem_drop q)
  obtain ⟨rfl, hrun2⟩ := exec_made hck2 hfr (inArgs_len args P) hsp2
  have hso := slots_run (i := i) (k := k) (x := x) (g := (g : Int)) hx hkl hok ⟨by omega, by omega⟩ (by rw [inArgs_len]; omega) hrun hrun2
  have eG : A ++ (outC t cv ++ [Value.int .i64 0]) ++ (outC t2 cv2 ++ [.int .i64 0]) = A ++ (outC t cv ++ ([.int .i64 0] ++ (outC t2 cv2 ++ [.int .i64 0]))) := by simp
  have hAl2 : (A ++ (outC t cv ++ [Value.int .i64 0])).length = 104 := by simp [hAl, outC_len m1]
  have f1 := gOe (A := A) (B := [Value.int .i64 0] ++ (outC t2 cv2 ++ [.int .i64 0])) (cv := cv) (j := 0) hAl m1
  rw [← eG] at f1
  have f2 := gOe (A := A ++ (outC t cv ++ [.int .i64 0])) (B := [.int .i64 0]) (cv := cv2) (j := 0) hAl2 m2
  refine iteT (both_ok f1 f2) ?_
  refine h_same (A := A) (M := [.int .i64 0]) (D := [.int .i64 0]) eG m1 m2 (SlAt.le callC_mono hl8 cc1) cc2 hso hco (by rw [hAl]; rfl) (by rw [hAl]; rfl) ?_
  refine ⟨rfl, ((hl5.trans hl6).trans hl7).trans hl8, ?_⟩
  have hGl : (A ++ (outC t cv ++ [Value.int .i64 0]) ++ (outC t2 cv2 ++ [Value.int .i64 0])).length = 173 := by simp [hAl, outC_len m1, outC_len m2]
  simp only [SV.den, X.den]
  rw [gv_at (j := 0) (by omega)]; rfl
namespace execSlots
theorem own : ownKnob Try.prog.godebug = none := by kernel_rfl
set_option maxRecDepth 100000 in
theorem laidOut : laidOutB Try.prog = true := by kernel_rfl
set_option maxRecDepth 100000 in
theorem contract (H : Type) (enc : TypeId × Value → H) (W : World) (base : Nat) (args : Array Value) (ds gs : List (DataW H)) (before : List MemPlace)
    (hval : ∀ (j : Nat) t v, Try.f13.params[j]? = some t → args[j]? = some v → Value.okWide Try.prog W .any base t v)
    (hW : DataW.Whole enc Try.prog Try.f13.params.toList Rows.execSlotsSpec.vars false W args.toList ds gs before) :
    Calls Try.prog 13 args W fun e W' => ∃ v, e = .returned v ∧ Rows.execSlotsSpec.post enc Try.prog Try.f13 false true false false W args v W' := by
  have hW' := hW
  obtain ⟨p, q, hA, hV, rfl, hfz, hnd⟩ := hW
  rw [Try.params13] at hA hval
  obtain ⟨v0, vs0, d0, ds0, p0, q0, hargs, rfl, rfl, h0, r0⟩ := trodAll_cons hA
  obtain ⟨v1, vs1, d1, ds1, p1, q1, rfl, rfl, rfl, h1, r1⟩ := trodAll_cons r0
  obtain ⟨v2, vs2, d2, ds2, p2, q2, rfl, rfl, rfl, h2, r2⟩ := trodAll_cons r1
  obtain ⟨v3, vs3, d3, ds3, p3, q3, rfl, rfl, rfl, h3, r3⟩ := trodAll_cons r2
  obtain ⟨v4, vs4, d4, ds4, p4, q4, rfl, rfl, rfl, h4, r4⟩ := trodAll_cons r3
  obtain ⟨v5, vs5, d5, ds5, p5, q5, rfl, rfl, rfl, h5, r5⟩ := trodAll_cons r4
  obtain ⟨rfl, rfl, rfl⟩ := trodAll_nil r5
  obtain rfl : args = #[v0, v1, v2, v3, v4, v5] := by cases args; simp_all
  obtain ⟨cs0, rfl, -⟩ := okWide_struct Try.underlying24 (hval 0 24 v0 rfl rfl)
  obtain ⟨p0, p1, p2, vs, l, he0, g0, g1, g2, hs⟩ := rd_spec (Rd.of h0)
  obtain rfl : cs0 = ([Value.int .u8 p0, .int .u8 p1, .int .u8 p2, vs]).toArray := by rw [← he0]; simp [Value.cells]
  obtain ⟨rg, rfl, -, -, wf1⟩ := open_int Try.underlying5 (hval 1 5 v1 rfl rfl) h1
  obtain ⟨cs2, rfl, -⟩ := okWide_struct Try.underlying27 (hval 2 27 v2 rfl rfl)
  obtain ⟨av, mv, nv, fuel, args, mem, ans, he2, ha, hm, hn⟩ := rd_input (Rd.of h2)
  obtain rfl : cs2 = ([av, mv, nv, Value.int .i64 fuel]).toArray := by rw [← he2]; simp [Value.cells]
  obtain ⟨c9, rfl, -, -, wf3⟩ := open_int Try.underlying5 (hval 3 5 v3 rfl rfl) h3
  obtain ⟨c10, rfl, -, -, wf4⟩ := open_int Try.underlying5 (hval 4 5 v4 rfl rfl) h4
  obtain ⟨c11, rfl, -, -, wf5⟩ := open_int Try.underlying5 (hval 5 5 v5 rfl rfl) h5
  refine (law_calls (f := 13) (args := [.agg ([Value.int .u8 p0, .int .u8 p1, .int .u8 p2, vs]).toArray, .int .u8 rg, .agg ([av, mv, nv, Value.int .i64 fuel]).toArray, .int .u8 c9, .int .u8 c10, .int .u8 c11]) (s13 hs g0 g1 g2 ha hm hn (u8r wf1) (u8r wf3) (u8r wf4) (u8r wf5))).mono ?_
  rintro e' W' ⟨rfl, bel⟩
  exact ⟨_, rfl, law_post laidOut hW' rfl (of_decide_eq_true (by kernel_rfl)) rfl Try.underlying4 rfl bel⟩
set_option maxRecDepth 100000 in
theorem lifted (os : Os) (started : os.Started) (H : Type) (enc : TypeId × Value → H) :
    ReturnsInHanded {} Try.checked os 13 .any (Rows.execSlotsSpec.pre6 enc Try.prog Try.f13 Rows.execSlotsRow.domain false) (Rows.execSlotsSpec.post enc Try.prog Try.f13 false true false false) := by
  refine returnsInHanded_of_change (C := Try.checked) own started (by kernel_rfl) Try.func13
    (ChangeSpec.witness6 (enc := enc) (C := Try.checked) false ⟨#[], #[.agg #[.int .u8 0, .int .u8 0, .int .u8 0, .slice none 0 0], .int .u8 0, .agg #[.slice none 0 0, .slice none 0 0, .slice none 0 0, .int .i64 0], .int .u8 0, .int .u8 0, .int .u8 0], []⟩ 8 (by kernel_rfl) (by kernel_rfl) (by kernel_rfl) (by kernel_rfl)) ?_
  intro W base args ds gs before hval hW _ _
  exact contract H enc W base args ds gs before hval hW
set_option maxRecDepth 100000 in
theorem proved : Rows.ExecSlotsSaid :=
  OpenClaim.holds_of_wide 13 Try.f13 rfl rfl rfl rfl rfl rfl rfl ⟨rfl, rfl, rfl, rfl, rfl⟩ rfl rfl rfl rfl rfl (by kernel_rfl) Try.func13 (by kernel_rfl)
    (of_decide_eq_true (by kernel_rfl)) (by unfold Func.isWrapper; first | (rw [if_pos (by decide +kernel)]; kernel_rfl) | (rw [if_neg (by decide +kernel)]; exact ⟨rfl, rfl⟩))
    (fun os started H enc _ => lifted os started H enc)
end execSlots
/-- The row, under a short name, for the claim. -/
theorem execSlotsHolds : Rows.ExecSlotsSaid := execSlots.proved
#print axioms execSlotsHolds
end Go.Proofs.Ytodeffobplpcnaa
