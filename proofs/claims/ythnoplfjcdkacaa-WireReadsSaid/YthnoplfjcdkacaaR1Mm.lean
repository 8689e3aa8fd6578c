/-
  Made of layer 5: right code, in rows of its own. Conditions: as the contract says.
-/
import Derived.Test.YthnoplfjcdkacaaMc
import Derived.Test.YthnoplfjcdkacaaTt
set_option linter.unusedVariables false
set_option linter.unusedSimpArgs false
namespace Go.Proofs.Ythnoplfjcdkacaa
open Go

theorem s42k {h : H} (n p R S : Int) (v : Value) (hv : Fits .sl v) (hR : R ≠ 0) :
    CallsA Try.prog 42 (fun e => [.int .i64 n, (e 0).ptr 0]) [[.int .i64 p, .int .i64 R, .int .i64 S, v]] h (RetC fun r c h' => h' = h ∧ c = [.int .i64 p, .int .i64 R, .int .i64 S, v] ∧ r = .int .i64 (n.tmod R)) := by
  refine c42k (G := [.int .i64 n, .int .i64 p, .int .i64 R, .int .i64 S, v]) ⟨⟨_, rfl⟩, ⟨_, rfl⟩, ⟨_, rfl⟩, ⟨_, rfl⟩, hv, trivial⟩ ?_
  refine ⟨fun _ => ⟨?_, trivial⟩, _, rfl, rfl, rfl, rfl⟩
  show cmpOp .neq R 0 = true
  rw [cmp_neq, decide_eq_true_eq]; exact hR
theorem at_step {R' : Value → List (List Value) → H → Prop} {G : List Value} {L : Lv} {h : H} {k : Out} {ks : List Nat} {key : Nat} {a u1 u2 u3 u4 : Nat} {n p R S : Int} {v : Value} (hkey : kIdx ks key = 0)
    (ea : gv G a = .int .i64 n) (e1 : gv G u1 = .int .i64 p) (e2 : gv G u2 = .int .i64 R) (e3 : gv G u3 = .int .i64 S) (e4 : gv G u4 = v) (hv : Fits .sl v) (hR : R ≠ 0)
    (hk : holds Try.prog R' k (G ++ [.int .i64 p, .int .i64 R, .int .i64 S, v, .int .i64 (n.tmod R)]) L h) :
    holds Try.prog R' (.call 42 [(.int .i64 (.var a)), .loc key 0] ks [[(.int .i64 (.var u1)), (.int .i64 (.var u2)), (.int .i64 (.var u3)), (.val u4)]] [[.int .i64, .int .i64, .int .i64, .sl]] [(false, [.int .i64])] k) G L h := by
  refine h_call1 (Q := fun r c h' => h' = h ∧ c = [.int .i64 p, .int .i64 R, .int .i64 S, v] ∧ r = .int .i64 (n.tmod R)) ?_ ?_
  · simp only [SV.denL, SV.den, X.den, hkey, ea, e1, e2, e3, e4, vi_int]
    exact s42k n p R S v hv hR
  · rintro r c h' ⟨rfl, rfl, rfl⟩
    exact ⟨⟨⟨_, rfl⟩, ⟨_, rfl⟩, ⟨_, rfl⟩, hv, trivial⟩, [.int .i64 (n.tmod R)], ⟨⟨_, rfl⟩, trivial⟩, rfl, hk⟩
def mR (rg : Int) : Int := 3 + rg.tmod 6
def mS (p sl : Int) : Int := max 1 p + sl.tmod 8
theorem mR_range {rg : Int} (h : 0 ≤ rg) : 3 ≤ mR rg ∧ mR rg ≤ 8 := by have := tmod_range (n := 6) h (by omega); unfold mR; omega
theorem mS_range {p sl : Int} (hp : 0 ≤ p ∧ p ≤ 4) (h : 0 ≤ sl) : 1 ≤ mS p sl ∧ p ≤ mS p sl ∧ mS p sl ≤ 11 := by have := tmod_range (n := 8) h (by omega); unfold mS; omega
theorem ge0 (n : Nat) : cmpOp .geq (n : Int) 0 = true := by rw [cmp_geq, decide_eq_true_eq]; omega
theorem ltN {n m : Nat} (h : n < m) : cmpOp .lss (n : Int) (m : Int) = true := by rw [cmp_lss, decide_eq_true_eq]; omega
/-- What Made hands out. -/
structure MadeR (h : H) (p R S N : Int) (n : Nat) (u : Value) (bs : List Blk) (fp : List Nat) (h' : H) : Prop where
  kept : KeptH h h' []
  own : OwnBlks h' u bs fp
  fresh : Fresh h fp
  nd : fp.Nodup
  len : (bs.length : Int) = N
  ok : ∀ b ∈ bs, MOk R S N n b
theorem int_len {a b : Nat} {c : Int} (h : (a : Int) = c) (h2 : a = b) : (b : Int) = c := by omega
section
variable {R' : Value → List (List Value) → H → Prop} {L : Lv}
def BX : X := .op .rem .i64 (.conv .i64 (.var 16)) (.len 14)
def bI (b : Int) (m : Nat) : Nat := (b.tmod m).toNat
theorem bx_val {G : List Value} {b : Int} {m : Nat} (e35 : gv G 16 = .int .u8 b) (e11 : vlen (gv G 14) = m) (hb : 0 ≤ b ∧ b ≤ 255) (hm : 0 < m) : vi (BX.den G) = ((bI b m : Nat) : Int) := by
  have := tmod_range (a := b) (n := m) hb.1 (by omega)
  simp only [BX, X.den, e35, e11, vi_int, intOp, bI]
  rw [wrap_i64 (by omega) (by omega)]; omega
theorem bI_lt {b : Int} {m : Nat} (hb : 0 ≤ b) (hm : 0 < m) : bI b m < m := by
  have := tmod_range (a := b) (n := m) hb (by omega); unfold bI; omega
def KX (a l : Nat) : X := .op .rem .i64 (.conv .i64 (.op .quo .u8 (.var a) (.lit 8))) (.op .add .i64 (.len l) (.lit 1))
def kI (b : Int) (n : Nat) : Nat := ((b.tdiv 8).tmod (n + 1)).toNat
theorem kx_val {G : List Value} {a l : Nat} {b : Int} {n : Nat} (ea : gv G a = .int .u8 b) (el : vlen (gv G l) = n) (hb : 0 ≤ b ∧ b ≤ 255) (hn : n ≤ 1000) : vi ((KX a l).den G) = ((kI b n : Nat) : Int) := by
  have h1 : 0 ≤ b.tdiv 8 ∧ b.tdiv 8 ≤ 31 := by
    rw [Int.tdiv_eq_ediv_of_nonneg hb.1]; omega
  have := tmod_range (a := b.tdiv 8) (n := (n : Int) + 1) h1.1 (by omega)
  simp only [KX, X.den, ea, el, vi_int, intOp, kI]
  rw [wrap_u8 (by omega) (by omega), wrap_i64 (by omega) (by omega), wrap_i64 (by omega) (by omega)]; omega
theorem kI_le {b : Int} {n : Nat} (hb : 0 ≤ b ∧ b ≤ 255) : kI b n ≤ n := by
  have h1 : 0 ≤ b.tdiv 8 := by rw [Int.tdiv_eq_ediv_of_nonneg hb.1]; omega
  have := tmod_range (a := b.tdiv 8) (n := (n : Int) + 1) h1 (by omega)
  unfold kI; omega
end
def MB (R : Int) (B : List Blk) (i : Nat) (x : Blk) : List Blk := (modL (modB R) i B).set i x
theorem mb_get {R : Int} {B : List Blk} {i : Nat} {x : Blk} (hi : i < B.length) : (MB R B i x)[i]? = some x := by
  unfold MB; rw [List.getElem?_set_self (by rw [modL_len]; exact hi)]
theorem mb_set {R : Int} {B : List Blk} {i : Nat} {x y : Blk} : (MB R B i x).set i y = MB R B i y := by unfold MB; rw [List.set_set]
theorem mb_self {R : Int} {B : List Blk} {i : Nat} {x : Blk} (hx : B[i]? = some x) : MB R B i x = modL (modB R) i B := by
  unfold MB
  have := modL_get (modB R) hx
  obtain ⟨hlt, e⟩ := List.getElem?_eq_some_iff.1 this
  rw [← e]; exact List.set_getElem_self hlt
def Out.past : Out → Out
  | .call _ _ _ _ _ _ (.loop _ _ _ (.ite _ _ b)) => b
  | _ => .fail
def t18b : Out := Out.past t18
theorem made_first {h : H} {vs mv : Value} {p0 p1 p2 rg sl : Int} {l ml : List Int} (hs : BytesAt h vs l) (hmv : BytesAt h mv ml) (h0 : 0 ≤ p0) (h1 : 0 ≤ p1) (h2 : 0 ≤ p2) (hr : 0 ≤ rg ∧ rg ≤ 255) (hsl : 0 ≤ sl ∧ sl ≤ 255) {Q : Value → List (List Value) → H → Prop}
    (hk : ∀ (h' : H) (u9 v8 u : Value) (i : Int) (fp : List Nat) (J : List Value → H → Prop), KeptH h h' [] → OwnBlks h' u ((madeB p0 0 p2 l).map (modB (mR rg))) fp → fp.Nodup → Fresh h fp →
      holds Try.prog Q t18b [.int .u8 p0, .int .u8 p1, .int .u8 p2, vs, .int .u8 rg, .int .u8 sl, mv, .int .i64 (madeP p0), v8, u9, .int .i64 i, .int .i64 (madeP p0), .int .i64 (mR rg), .int .i64 (mS (madeP p0) sl), u] [J] h') :
    holds Try.prog Q t18 [.int .u8 p0, .int .u8 p1, .int .u8 p2, vs, .int .u8 rg, .int .u8 sl, mv] [] h := by
  have a := madeP_range h0
  have bb := madeV_range (p1 := 0) h0 (by omega)
  have c := madeN_range h2
  have hB := hs.inB
  have hBl := madeB_len (p0 := p0) (p1 := 0) (l := l) h2
  have hSm := madeB_small (p1 := 0) (l := l) h0 (by omega) h2 hB
  have hRr := mR_range hr.1
  have hSr := mS_range a hsl.1
  refine h_call0 (s12 (p0 := p0) (p1 := 0) (p2 := p2) hs h0 (by omega) h2) ?_
  rintro _ h4 ⟨hk4, u, fp, rfl, hu, hf, hnd⟩
  refine ⟨[.int .i64 (madeP p0), .int .i64 (madeV p0 0), u], ⟨⟨_, rfl⟩, ⟨_, rfl⟩, hu.at.fit, trivial⟩, rfl, ?_⟩
  simp only [List.cons_append, List.nil_append]
  obtain ⟨B, hBd⟩ : ∃ B, B = madeB p0 0 p2 l := ⟨_, rfl⟩
  rw [← hBd] at hBl hSm hu hk
  obtain ⟨R, hRd⟩ : ∃ R, R = mR rg := ⟨_, rfl⟩
  obtain ⟨S, hSd⟩ : ∃ S, S = mS (madeP p0) sl := ⟨_, rfl⟩
  obtain ⟨pp, hpd⟩ : ∃ pp, pp = madeP p0 := ⟨_, rfl⟩
  rw [← hRd] at hRr hk
  rw [← hSd] at hSr hk
  rw [← hpd] at a hSr hk ⊢
  have hul := hu.len (by omega)
  have hufit : Fits .sl u := (OwnBlks.at hu).fit
  have t6 := tmod_range (n := 6) hr.1 (by omega)
  have t8 := tmod_range (n := 8) hsl.1 (by omega)
  refine h_loop (fun xs h' => ∃ i : Nat, xs = [.int .i64 (i : Int), .int .i64 pp, .int .i64 R, .int .i64 S, u] ∧ i ≤ B.length ∧ KeptH h h' [] ∧ OwnBlks h' u (modL (modB R) i B) fp)
    (fun xs h' => B.length - (vi (gv xs 0)).toNat) ⟨0, ?_, Nat.zero_le _, hk4, by rw [modL_zero]; exact hu⟩ ?_
  · have e1 : intOp .add .i64 3 (IntKind.i64.wrap (intOp .rem .u8 rg 6)) = R := by
      simp only [intOp, hRd, mR]; rw [wrap_i64 (n := rg.tmod 6) (by omega) (by omega), wrap_i64 (by omega) (by omega)]
    have e2 : intOp .add .i64 (vi (if cmpOp .gtr 1 pp = true then Value.int .i64 1 else .int .i64 pp)) (IntKind.i64.wrap (intOp .rem .u8 sl 8)) = S := by
      simp only [intOp, hSd, mS, hpd] at *
      rw [wrap_i64 (n := sl.tmod 8) (by omega) (by omega), vi_ite, cmp_gtr]
      simp only [decide_eq_true_eq, vi_int]
      split <;> rw [wrap_i64 (by omega) (by omega)] <;> omega
    show [Value.int .i64 0, .int .i64 pp, .int .i64 (intOp .add .i64 3 (IntKind.i64.wrap (intOp .rem .u8 rg 6))), .int .i64 (intOp .add .i64 (vi (if cmpOp .gtr 1 pp = true then Value.int .i64 1 else .int .i64 pp)) (IntKind.i64.wrap (intOp .rem .u8 sl 8))), u] = _
    rw [e1, e2]; rfl
  rintro xs h5 J - ⟨i, rfl, hi, hk5, hu5⟩ hJ
  simp only [List.cons_append, List.nil_append]
  refine h_ite (fun hc => ?_) (fun hc => ?_)
  rotate_left
  · replace hc : cmpOp .lss (i : Int) ((vlen u : Nat) : Int) = false := hc
    rw [hul, cmp_lss, decide_eq_false_iff_not] at hc
    have hie : i = B.length := by omega
    rw [hie, modL_all] at hu5
    exact hk h5 _ _ _ _ fp _ hk5 hu5 hnd hf
  replace hc : cmpOp .lss (i : Int) ((vlen u : Nat) : Int) = true := hc
  have n1 := hc
  rw [hul, cmp_lss, decide_eq_true_eq] at hc
  have hib : i < B.length := by omega
  have hx : B[i]? = some B[i] := List.getElem?_eq_getElem hib
  have hxm : B[i] ∈ B := List.getElem_mem _
  generalize B[i] = x at hx hxm
  obtain ⟨hx1, hx2⟩ := hSm.2 x hxm
  obtain ⟨c5, f5, L1, L2, fr5, K5⟩ := hu5.lens (modL_get (modB R) hx)
  obtain ⟨w0, rfl, hw0⟩ := K5.rep
  have hw0l := hw0.len (by omega)
  have hw0fit := (SlF.at (sz := 7) (Rep := InsC) (Nat.zero_lt_succ 6) insF_at hw0).fit
  have hr5 : Reads h5 ((vaddr u).add (i * 5 + 0)) [w0] := K5.reads fun j u hj => by obtain ⟨rfl, rfl⟩ := get_one hj; rfl
  clear K5
  refine ⟨fun _ => ⟨ge0 i, n1, trivial⟩, h_load [w0] ⟨hw0fit, trivial⟩ (fun _ => by rw [← add_add] at hr5; exact hr5) ?_⟩
  refine h_loop (fun xs h' => ∃ j : Nat, xs = [.int .i64 (j : Int), .int .i64 pp, .int .i64 R, .int .i64 S, u] ∧ j ≤ x.ins.length ∧ KeptH h h' [] ∧ OwnBlks h' u (MB R B i ⟨modL (modI R) j x.ins, x.en⟩) fp)
    (fun xs h' => x.ins.length - (vi (gv xs 0)).toNat) ⟨0, rfl, Nat.zero_le _, hk5, by rw [modL_zero, mb_self hx]; exact hu5⟩ ?_
  rintro xs h6 J2 - ⟨j, rfl, hj, hk6, hu6⟩ hJ2
  simp only [List.cons_append, List.nil_append]
  refine h_ite (fun hc2 => ?_) (fun hc2 => ?_)
  · replace hc2 : cmpOp .lss (j : Int) ((vlen w0 : Nat) : Int) = true := hc2
    rw [hw0l, cmp_lss, decide_eq_true_eq] at hc2
    have hjl : j < x.ins.length := by omega
    have hy : x.ins[j]? = some x.ins[j] := List.getElem?_eq_getElem hjl
    have hym : x.ins[j] ∈ x.ins := List.getElem_mem _
    generalize x.ins[j] = y at hy hym
    have hya := hx2 y hym
    obtain ⟨w, q, V⟩ := view_of hu6 hnd (mb_get hib) (modL_get (modI R) hy)
    have hwl := V.insAt.len
    simp only [modL_len] at hwl
    have hwfit := V.insAt.fit
    have hrb := V.blk
    have hri := V.ins
    have hqfit := V.argsAt.fit
    have hql := V.argsAt.len
    have m1 : cmpOp .lss (j : Int) ((vlen w : Nat) : Int) = true := by rw [hwl]; exact ltN hjl
    have cell : ∀ (o : Nat) (z : Value), (insC y q)[o]? = some z → Reads h6 ((((vaddr w).add (j * 7))).add o) [z] := fun o z hz => by
      have := hri.sub (o := o) (xs := [z]) fun k t hk => by obtain ⟨rfl, rfl⟩ := get_one hk; exact hz
      rw [add_add, Nat.add_zero] at this; rw [add_add]; exact this
    refine h_load [w] ⟨hwfit, trivial⟩ (fun _ => by rw [← add_add] at hrb; exact hrb) ⟨fun _ => ⟨ge0 j, m1, trivial⟩, ?_⟩
    refine h_load [.int .i64 y.d] ⟨⟨_, rfl⟩, trivial⟩ (fun _ => cell 2 _ rfl) ?_
    refine h_load [.int .i64 y.a] ⟨⟨_, rfl⟩, trivial⟩ (fun _ => cell 3 _ rfl) ?_
    refine h_load [.int .i64 y.b] ⟨⟨_, rfl⟩, trivial⟩ (fun _ => cell 4 _ rfl) ?_
    simp only [List.cons_append, List.nil_append]
    refine at_step rfl rfl rfl rfl rfl rfl hufit (by omega) ?_
    simp only [List.cons_append, List.nil_append]
    refine ⟨fun _ => cell 4 _ rfl, fun _ => cell 3 _ rfl, at_step rfl rfl rfl rfl rfl rfl hufit (by omega) ?_⟩
    simp only [List.cons_append, List.nil_append]
    refine ⟨fun _ => cell 4 _ rfl, at_step rfl rfl rfl rfl rfl rfl hufit (by omega) ?_⟩
    simp only [List.cons_append, List.nil_append]
    obtain ⟨w2, V2, k2⟩ := V.set (o := 2) (w0 := .int .i64 y.d) (w1 := .int .i64 (y.d.tmod R)) (A := [.int .u8 y.kind, .int .u8 y.op]) (C := [.int .i64 y.a, .int .i64 y.b, .int .i64 y.n, q]) (y' := ⟨y.kind, y.op, y.d.tmod R, y.a, y.b, y.n, y.args⟩) rfl rfl rfl rfl
    obtain ⟨w3, V3, k3⟩ := V2.set (o := 3) (w0 := .int .i64 y.a) (w1 := .int .i64 (y.a.tmod R)) (A := [.int .u8 y.kind, .int .u8 y.op, .int .i64 (y.d.tmod R)]) (C := [.int .i64 y.b, .int .i64 y.n, q]) (y' := ⟨y.kind, y.op, y.d.tmod R, y.a.tmod R, y.b, y.n, y.args⟩) rfl rfl rfl rfl
    obtain ⟨w4, V4, k4⟩ := V3.set (o := 4) (w0 := .int .i64 y.b) (w1 := .int .i64 (y.b.tmod R)) (A := [.int .u8 y.kind, .int .u8 y.op, .int .i64 (y.d.tmod R), .int .i64 (y.a.tmod R)]) (C := [.int .i64 y.n, q]) (y' := ⟨y.kind, y.op, y.d.tmod R, y.a.tmod R, y.b.tmod R, y.n, y.args⟩) rfl rfl rfl rfl
    refine h_store ((vaddr w).add (j * 7 + 2)) [.int .i64 (y.d.tmod R)] (by rw [← add_add]; rfl) rfl w2 ?_
    refine h_store ((vaddr w).add (j * 7 + 3)) [.int .i64 (y.a.tmod R)] (by rw [← add_add]; rfl) rfl w3 ?_
    refine h_store ((vaddr w).add (j * 7 + 4)) [.int .i64 (y.b.tmod R)] (by rw [← add_add]; rfl) rfl w4 ?_
    simp only [mb_set, List.set_set] at V4
    have hk7 := ((hk6.trans_nil (k2) hf).trans_nil k3 hf).trans_nil k4 hf
    generalize ((h6.sets ((vaddr w).add (j * 7 + 2)) [.int .i64 (y.d.tmod R)]).sets ((vaddr w).add (j * 7 + 3)) [.int .i64 (y.a.tmod R)]).sets ((vaddr w).add (j * 7 + 4)) [.int .i64 (y.b.tmod R)] = h7 at V4 hk7 ⊢
    clear k2 k3 k4 V2 V3 V w2 w3 w4 cell hri hrb
    have qr : ∀ {h' : H} {xb : Blk} {yi : Ins} {bs : List Blk}, View h' u bs fp i xb w j yi q → Reads h' (((vaddr w).add (j * 7)).add 6) [q] := fun V => by
      have := V.ins.sub (o := 6) (xs := [q]) fun k t hk => by obtain ⟨rfl, rfl⟩ := get_one hk; rfl
      rw [add_add, Nat.add_zero] at this; rw [add_add]; exact this
    refine h_load [q] ⟨hqfit, trivial⟩ (fun _ => qr V4) ?_
    refine h_loop (fun xs h' => ∃ a : Nat, xs = [.int .i64 (a : Int), .int .i64 pp, .int .i64 R, .int .i64 S, u] ∧ a ≤ y.args.length ∧ KeptH h h' [] ∧
        View h' u (MB R B i ⟨(modL (modI R) j x.ins).set j ⟨y.kind, y.op, y.d.tmod R, y.a.tmod R, y.b.tmod R, y.n, modL (·.tmod R) a y.args⟩, x.en⟩) fp i ⟨(modL (modI R) j x.ins).set j ⟨y.kind, y.op, y.d.tmod R, y.a.tmod R, y.b.tmod R, y.n, modL (·.tmod R) a y.args⟩, x.en⟩ w j
          ⟨y.kind, y.op, y.d.tmod R, y.a.tmod R, y.b.tmod R, y.n, modL (·.tmod R) a y.args⟩ q)
      (fun xs h' => y.args.length - (vi (gv xs 0)).toNat) ⟨0, rfl, Nat.zero_le _, hk7, by rw [modL_zero]; exact V4⟩ ?_
    rintro xs h8 J3 - ⟨a, rfl, ha, hk8, V8⟩ hJ3
    simp only [List.cons_append, List.nil_append]
    refine h_ite (fun hc3 => ?_) (fun hc3 => ?_)
    · replace hc3 : cmpOp .lss (a : Int) ((vlen q : Nat) : Int) = true := hc3
      have m3 := hc3
      rw [hql, cmp_lss, decide_eq_true_eq] at hc3
      have hal : a < y.args.length := by omega
      have hz : y.args[a]? = some y.args[a] := List.getElem?_eq_getElem hal
      generalize y.args[a] = z at hz
      have hzr := V8.argsAt.read (modL_get (·.tmod R) hz)
      obtain ⟨w9, V9, k9⟩ := V8.arg (z' := z.tmod R) (modL_get (·.tmod R) hz)
      refine h_load [q] ⟨hqfit, trivial⟩ (fun _ => qr V8) (h_load [q] ⟨hqfit, trivial⟩ (fun _ => qr V8) ⟨fun _ => ⟨ge0 a, m3, trivial⟩, h_load [.int .i64 z] ⟨⟨_, rfl⟩, trivial⟩ (fun _ => hzr) ?_⟩)
      simp only [List.cons_append, List.nil_append]
      refine at_step rfl rfl rfl rfl rfl rfl hufit (by omega) ?_
      simp only [List.cons_append, List.nil_append]
      refine ⟨fun _ => qr V8, fun _ => qr V8, fun _ => ⟨ge0 a, m3, trivial⟩, h_store ((vaddr q).add a) [.int .i64 (z.tmod R)] ?_ rfl w9 ?_⟩
      · show (vaddr q).add ((a : Int).toNat * 1) = _
        rw [Int.toNat_natCast, Nat.mul_one]
      simp only [mb_set, List.set_set] at V9
      have hse : (modL (·.tmod R) a y.args).set a (z.tmod R) = modL (·.tmod R) (a + 1) y.args := modL_set (f := fun z : Int => z.tmod R) hz
      rw [hse] at V9
      refine again_of (xs := [.int .i64 ((a + 1 : Nat) : Int), .int .i64 pp, .int .i64 R, .int .i64 S, u]) (J := J3) ?_ rfl (hJ3 _ _ ⟨a + 1, rfl, by omega, hk8.trans_nil k9 hf, V9⟩ ?_)
      · exact congrArg (fun z => [Value.int .i64 z, .int .i64 pp, .int .i64 R, .int .i64 S, u]) (int_add_one (n := y.args.length) (by omega) (by omega))
      · simp only [gv_zero, vi_int]; omega
    · replace hc3 : cmpOp .lss (a : Int) ((vlen q : Nat) : Int) = false := hc3
      rw [hql, cmp_lss, decide_eq_false_iff_not] at hc3
      have hae : a = y.args.length := by omega
      have hse : (modL (modI R) j x.ins).set j ⟨y.kind, y.op, y.d.tmod R, y.a.tmod R, y.b.tmod R, y.n, modL (·.tmod R) a y.args⟩ = modL (modI R) (j + 1) x.ins := by
        rw [hae, modL_all]; exact modL_set (f := modI R) hy
      have h9 := V8.own
      rw [hse] at h9
      refine again_of (xs := [.int .i64 ((j + 1 : Nat) : Int), .int .i64 pp, .int .i64 R, .int .i64 S, u]) (J := J2) ?_ rfl (hJ2 _ _ ⟨j + 1, rfl, by omega, hk8, h9⟩ ?_)
      · exact congrArg (fun z => [Value.int .i64 z, .int .i64 pp, .int .i64 R, .int .i64 S, u]) (int_add_one (n := x.ins.length) (by omega) (by omega))
      · simp only [gv_zero, vi_int]; omega
  · replace hc2 : cmpOp .lss (j : Int) ((vlen w0 : Nat) : Int) = false := hc2
    rw [hw0l, cmp_lss, decide_eq_false_iff_not] at hc2
    have hje : j = x.ins.length := by omega
    rw [hje, modL_all] at hu6
    obtain ⟨e1, e2, e3⟩ := blk_end (x := ⟨x.ins.map (modI R), x.en⟩) hu6 hnd (mb_get hib) (o := 1) (w0 := .int .i64 x.en.a) (w1 := .int .i64 (x.en.a.tmod R)) (A := [.int .u8 x.en.kind]) (C := [.int .i64 x.en.to, .int .i64 x.en.el]) (en := modE R x.en) rfl rfl rfl
    have her : Reads h6 ((((vaddr u).add (i * 5)).add 1).add 1) [.int .i64 x.en.a] := by
      obtain ⟨c6, f6, M1, M2, fr6, K6⟩ := hu6.lens (mb_get hib)
      obtain ⟨w6, rfl, -⟩ := K6.rep
      rw [add_add, add_add]
      exact K6.reads fun k t hk => by obtain ⟨rfl, rfl⟩ := get_one hk; rfl
    refine h_load [.int .i64 x.en.a] ⟨⟨_, rfl⟩, trivial⟩ (fun _ => her) ?_
    simp only [List.cons_append, List.nil_append]
    refine at_step rfl rfl rfl rfl rfl rfl hufit (by omega) ?_
    simp only [List.cons_append, List.nil_append]
    refine h_store ((vaddr u).add (i * 5 + (1 + 1))) [.int .i64 (x.en.a.tmod R)] (by rw [← Nat.add_assoc, ← add_add, ← add_add]; rfl) rfl e1 ?_
    have h9 := e2
    rw [mb_set] at h9
    have hse : MB R B i ⟨x.ins.map (modI R), modE R x.en⟩ = modL (modB R) (i + 1) B := modL_set (f := modB R) hx
    rw [hse] at h9
    refine again_of (xs := [.int .i64 ((i + 1 : Nat) : Int), .int .i64 pp, .int .i64 R, .int .i64 S, u]) (J := J) ?_ rfl (hJ _ _ ⟨i + 1, rfl, by omega, hk6.trans_nil e3 hf, h9⟩ ?_)
    · exact congrArg (fun z => [Value.int .i64 z, .int .i64 pp, .int .i64 R, .int .i64 S, u]) (int_add_one (n := B.length) (by omega) (by omega))
    · simp only [gv_zero, vi_int]; omega

theorem m1_val {G : List Value} {m : Nat} {k : Int} (e : gv G 15 = .int .i64 (m : Int)) (hm : m ≤ 1000) (hk : 0 ≤ k ∧ k ≤ 10) : vi ((X.op .add .i64 (.var 15) (.lit k)).den G) = (m : Int) + k := by
  simp only [X.den, e, vi_int, intOp]; rw [wrap_i64 (by omega) (by omega)]
theorem by_read {h : H} {v : Value} {l : List Int} (hv : BytesAt h v l) {G : List Value} {x : X} {m : Nat} (e6 : gv G 6 = v) (hx : vi (x.den G) = (m : Int)) (hm : m < l.length) : Reads h ((PE.idx (.var 6) x 1).den G) [.int .u8 l[m]] := by
  simp only [PE.den, e6, hx, Int.toNat_natCast]
  exact (hv.read (List.getElem?_eq_getElem hm)).1
theorem rem_lit {b R : Int} (hb : 0 ≤ b ∧ b ≤ 255) : intOp .rem .i64 (IntKind.i64.wrap b) R = b.tmod R := by
  simp only [intOp]; rw [wrap_i64 (by omega) (by omega)]
theorem mem_ins {x : Blk} {k : Nat} {y z : Ins} (h : z ∈ x.ins.take k ++ [y] ++ x.ins.drop k) : z ∈ x.ins ∨ z = y := by
  simp only [List.mem_append, List.mem_singleton] at h
  rcases h with (h | h) | h
  · exact .inl (List.mem_of_mem_take h)
  · exact .inr h
  · exact .inl (List.mem_of_mem_drop h)
theorem made_second {h : H} {vs mv v8 u9 u : Value} {p0 p1 p2 rg sl pp R S N i0 : Int} {ml : List Int} {J0 : List Value → H → Prop} {Q : Value → List (List Value) → H → Prop} {h1 : H} {bs1 : List Blk} {fp1 : List Nat}
    (hmv : BytesAt h mv ml) (hR : 3 ≤ R ∧ R ≤ 8) (hS : 1 ≤ S ∧ S ≤ 11) (hN : 1 ≤ N ∧ N ≤ 7) (M : MadeR h pp R S N 8 u bs1 fp1 h1)
    (hk : ∀ (h' : H) bs fp, MadeR h pp R S N 70 u bs fp h' → (ml = [] → bs = bs1) → Q (.agg #[.int .i64 pp, .int .i64 R, .int .i64 S, u]) [] h') :
    holds Try.prog Q t18b [.int .u8 p0, .int .u8 p1, .int .u8 p2, vs, .int .u8 rg, .int .u8 sl, mv, .int .i64 pp, v8, u9, .int .i64 i0, .int .i64 pp, .int .i64 R, .int .i64 S, u] [J0] h1 := by
  have hml := hmv.len
  have hmB := hmv.inB
  refine h_loop (fun xs h' => ∃ (m : Nat) (bs : List Blk) (fp : List Nat), xs = [.int .i64 (m : Int)] ∧ m ≤ 62 ∧ MadeR h pp R S N (8 + m) u bs fp h' ∧ (ml = [] → bs = bs1))
    (fun xs h' => 100 - (vi (gv xs 0)).toNat) ⟨0, bs1, fp1, rfl, by omega, M, fun _ => rfl⟩ ?_
  rintro xs h2 J - ⟨m, bs, fp, rfl, hm, K, hsame⟩ hJ
  simp only [List.cons_append, List.nil_append]
  have hul := K.own.len (by omega)
  have hNl := K.len
  have hmv2 := hmv.le K.kept.le_nil
  refine h_ite (fun hc => ?_) (fun hc => ?_)
  rotate_left
  · refine hk h2 bs fp ⟨K.kept, K.own, K.fresh, K.nd, K.len, fun b hb => ?_⟩ hsame
    obtain ⟨k1, k2, k3⟩ := K.ok b hb
    exact ⟨by omega, k2, k3⟩
  replace hc : vb (if cmpOp .lss (intOp .add .i64 (m : Int) 2) ((vlen mv : Nat) : Int) = true then Value.bool (cmpOp .lss (m : Int) 60) else .bool false) = true := hc
  have e2 : intOp .add .i64 (m : Int) 2 = (m : Int) + 2 := by simp only [intOp]; rw [wrap_i64 (by omega) (by omega)]
  rw [e2, hml, cmp_lss, cmp_lss] at hc
  have hc' : m + 2 < ml.length ∧ m < 60 := by
    by_cases q : (m : Int) + 2 < (ml.length : Int)
    · simp [q, vb] at hc; omega
    · simp [q, vb] at hc
  clear hc e2
  obtain ⟨hm2, hm60⟩ := hc'
  have b0 : ml[m] ∈ ml := List.getElem_mem _
  have b1 : ml[m + 1] ∈ ml := List.getElem_mem _
  have b2 : ml[m + 2] ∈ ml := List.getElem_mem _
  have r0 : ∀ {h' : H}, KeptH h h' [] → ∀ {G : List Value}, gv G 6 = mv → gv G 15 = .int .i64 (m : Int) → Reads h' ((PE.idx (.var 6) (.var 15) 1).den G) [.int .u8 ml[m]] := fun kk G e6 e12 => by_read (hmv.le kk.le_nil) e6 (by simp only [X.den, e12, vi_int]) (by omega)
  have r1 : ∀ {h' : H}, KeptH h h' [] → ∀ {G : List Value}, gv G 6 = mv → gv G 15 = .int .i64 (m : Int) → Reads h' ((PE.idx (.var 6) (.op .add .i64 (.var 15) (.lit 1)) 1).den G) [.int .u8 ml[m + 1]] := fun kk G e6 e12 => by_read (m := m + 1) (hmv.le kk.le_nil) e6 (by rw [m1_val e12 (by omega) (by omega)]; omega) (by omega)
  have r2 : ∀ {h' : H}, KeptH h h' [] → ∀ {G : List Value}, gv G 6 = mv → gv G 15 = .int .i64 (m : Int) → Reads h' ((PE.idx (.var 6) (.op .add .i64 (.var 15) (.lit 2)) 1).den G) [.int .u8 ml[m + 2]] := fun kk G e6 e12 => by_read (m := m + 2) (hmv.le kk.le_nil) e6 (by rw [m1_val e12 (by omega) (by omega)]; omega) (by omega)
  generalize hc0 : ml[m] = c0 at b0 r0
  generalize hc1 : ml[m + 1] = c1 at b1 r1
  generalize hc2 : ml[m + 2] = c2 at b2 r2
  replace b0 := hmB _ b0
  replace b1 := hmB _ b1
  replace b2 := hmB _ b2
  have n0 : ∀ {G : List Value}, gv G 6 = mv → gv G 15 = .int .i64 (m : Int) → needs G [(.cmp .geq (.var 15) (.lit 0)), (.cmp .lss (.var 15) (.len 6))] := fun e6 e12 => by
    simp only [needs, X.den, e6, e12, hml, vi_int, vb_bool, cmp_geq, cmp_lss, decide_eq_true_eq, and_true]; omega
  have n1 : ∀ {G : List Value}, gv G 6 = mv → gv G 15 = .int .i64 (m : Int) → needs G [(.cmp .geq (.op .add .i64 (.var 15) (.lit 1)) (.lit 0)), (.cmp .lss (.op .add .i64 (.var 15) (.lit 1)) (.len 6))] := fun {G} e6 e12 => by
    have := m1_val (k := 1) e12 (by omega) (by omega)
    have e : vb ((X.cmp .geq (.op .add .i64 (.var 15) (.lit 1)) (.lit 0)).den G) = cmpOp .geq (vi ((X.op .add .i64 (.var 15) (.lit 1)).den G)) 0 := rfl
    have e' : vb ((X.cmp .lss (.op .add .i64 (.var 15) (.lit 1)) (.len 6)).den G) = cmpOp .lss (vi ((X.op .add .i64 (.var 15) (.lit 1)).den G)) (vlen (gv G 6) : Nat) := rfl
    refine ⟨?_, ?_, trivial⟩
    · rw [e, this, cmp_geq, decide_eq_true_eq]; omega
    · rw [e', this, e6, hml, cmp_lss, decide_eq_true_eq]; omega
  have n2 : ∀ {G : List Value}, gv G 6 = mv → gv G 15 = .int .i64 (m : Int) → needs G [(.cmp .geq (.op .add .i64 (.var 15) (.lit 2)) (.lit 0)), (.cmp .lss (.op .add .i64 (.var 15) (.lit 2)) (.len 6))] := fun {G} e6 e12 => by
    have := m1_val (k := 2) e12 (by omega) (by omega)
    have e : vb ((X.cmp .geq (.op .add .i64 (.var 15) (.lit 2)) (.lit 0)).den G) = cmpOp .geq (vi ((X.op .add .i64 (.var 15) (.lit 2)).den G)) 0 := rfl
    have e' : vb ((X.cmp .lss (.op .add .i64 (.var 15) (.lit 2)) (.len 6)).den G) = cmpOp .lss (vi ((X.op .add .i64 (.var 15) (.lit 2)).den G)) (vlen (gv G 6) : Nat) := rfl
    refine ⟨?_, ?_, trivial⟩
    · rw [e, this, cmp_geq, decide_eq_true_eq]; omega
    · rw [e', this, e6, hml, cmp_lss, decide_eq_true_eq]; omega
  have nz : ∀ {G : List Value} {j : Nat} {z : Int}, gv G j = .int .i64 z → z ≠ 0 → needs G [(.cmp .neq (.var j) (.lit 0))] := fun e hz => by
    simp only [needs, X.den, e, vi_int, vb_bool, cmp_neq, decide_eq_true_eq, and_true]; exact hz
  have hN0 : 0 < bs.length := by omega
  have hib := bI_lt (b := c0) b0.1 hN0
  generalize hi : bI c0 bs.length = i at hib
  have bx : ∀ {G : List Value}, gv G 14 = u → gv G 16 = .int .u8 c0 → vi (BX.den G) = (i : Int) := fun e11 e35 => by rw [bx_val e35 (m := bs.length) (by rw [e11]; exact hul) b0 hN0, hi]
  have hx : bs[i]? = some bs[i] := List.getElem?_eq_getElem hib
  have hxm : bs[i] ∈ bs := List.getElem_mem _
  generalize bs[i] = x at hx hxm
  obtain ⟨hx1, hx2, hx3⟩ := K.ok x hxm
  obtain ⟨cc, f, L1, L2, fr, KL⟩ := K.own.lens hx
  obtain ⟨w, rfl, hw⟩ := KL.rep
  have hwl := hw.len (by omega)
  have hwfit := (SlF.at (sz := 7) (Rep := InsC) (Nat.zero_lt_succ 6) insF_at hw).fit
  have hwr : Reads h2 ((vaddr u).add (i * 5 + 0)) [w] := KL.reads fun j u hj => by obtain ⟨rfl, rfl⟩ := get_one hj; rfl
  have pb : ∀ {G : List Value}, gv G 14 = u → gv G 16 = .int .u8 c0 → PE.den G (.fld (.idx (.var 14) BX 5) 0) = (vaddr u).add (i * 5 + 0) := fun e11 e35 => by
    simp only [PE.den, e11, bx e11 e35, Int.toNat_natCast, add_add]
  have nb : ∀ {G : List Value}, gv G 14 = u → gv G 16 = .int .u8 c0 → needs G [(.cmp .geq BX (.lit 0)), (.cmp .lss BX (.len 14))] := fun {G} e11 e35 => by
    have e : vb ((X.cmp .geq BX (.lit 0)).den G) = cmpOp .geq (vi (BX.den G)) 0 := rfl
    have e' : vb ((X.cmp .lss BX (.len 14)).den G) = cmpOp .lss (vi (BX.den G)) (vlen (gv G 14) : Nat) := rfl
    refine ⟨?_, ?_, trivial⟩
    · rw [e, bx e11 e35]; exact ge0 i
    · rw [e', bx e11 e35, e11, hul]; exact ltN hib
  have hkl := kI_le (b := c0) (n := x.ins.length) b0
  generalize hkk : kI c0 x.ins.length = k at hkl
  have kx : ∀ {G : List Value} {a l : Nat}, gv G a = .int .u8 c0 → gv G l = w → vi ((KX a l).den G) = (k : Int) := fun ea el => by rw [kx_val ea (n := x.ins.length) (by rw [el]; exact hwl) b0 (by omega), hkk]
  have hcap : x.ins.length ≤ vcap w := by
    obtain ⟨a, n, c, rfl, _, h3⟩ := hwfit
    simp only [vlen_sl, vcap_sl] at hwl ⊢; omega
  have nk1 : ∀ {G : List Value} {a l j : Nat}, gv G a = .int .u8 c0 → gv G l = w → gv G j = w → needs G [(.cmp .geq (KX a l) (.lit 0)), (.cmp .leq (KX a l) (.cap j))] := fun {G a l j} ea el ej => by
    have e : vb ((X.cmp .geq (KX a l) (.lit 0)).den G) = cmpOp .geq (vi ((KX a l).den G)) 0 := rfl
    have e' : vb ((X.cmp .leq (KX a l) (.cap j)).den G) = cmpOp .leq (vi ((KX a l).den G)) (vcap (gv G j) : Nat) := rfl
    refine ⟨?_, ?_, trivial⟩
    · rw [e, kx ea el]; exact ge0 k
    · rw [e', kx ea el, ej, cmp_leq, decide_eq_true_eq]; omega
  have nk2 : ∀ {G : List Value} {a l j : Nat}, gv G a = .int .u8 c0 → gv G l = w → gv G j = w → needs G [(.cmp .geq (KX a l) (.lit 0)), (.cmp .leq (KX a l) (.len j))] := fun {G a l j} ea el ej => by
    have e : vb ((X.cmp .geq (KX a l) (.lit 0)).den G) = cmpOp .geq (vi ((KX a l).den G)) 0 := rfl
    have e' : vb ((X.cmp .leq (KX a l) (.len j)).den G) = cmpOp .leq (vi ((KX a l).den G)) (vlen (gv G j) : Nat) := rfl
    refine ⟨?_, ?_, trivial⟩
    · rw [e, kx ea el]; exact ge0 k
    · rw [e', kx ea el, ej, hwl, cmp_leq, decide_eq_true_eq]; omega
  have nl : ∀ {G : List Value} {l : Nat}, gv G l = w → needs G [(.cmp .neq (.op .add .i64 (.len l) (.lit 1)) (.lit 0))] := fun {G l} el => by
    simp only [needs, X.den, el, hwl, intOp, vi_int, vb_bool, cmp_neq, decide_eq_true_eq, and_true]
    rw [wrap_i64 (by omega) (by omega)]; omega
  have sl1 : ∀ {G : List Value} {a l j : Nat}, gv G a = .int .u8 c0 → gv G l = w → gv G j = w → (LF.slice (.val j) none (some (KX a l)) 7).den G = sliceV w 0 k 7 := fun {G a l j} ea el ej => by
    show sliceV (gv G j) 0 (vi ((KX a l).den G)).toNat 7 = _
    rw [kx ea el, ej, Int.toNat_natCast]
  have sl2 : ∀ {G : List Value} {a l j : Nat}, gv G a = .int .u8 c0 → gv G l = w → gv G j = w → (LF.slice (.val j) (some (KX a l)) none 7).den G = sliceV w k x.ins.length 7 := fun {G a l j} ea el ej => by
    show sliceV (gv G j) (vi ((KX a l).den G)).toNat (vlen (gv G j)) 7 = _
    rw [kx ea el, ej, Int.toNat_natCast, hwl]
  -- what is left behind an instruction put in
  have fin : ∀ {y : Ins} {G : List Value} {h' : H} {fp' : List Nat}, mofM y R S = 0 ∧ y.n = 0 → y.args = [] → gv G 15 = .int .i64 (m : Int) →
      OwnBlks h' u (bs.set i ⟨x.ins.take k ++ [y] ++ x.ins.drop k, x.en⟩) fp' → fp'.Nodup → KeptH h2 h' fp → (∀ b ∈ fp', b ∈ fp ∨ h2 b = none) → holds Try.prog Q (.again 0 [(.int .i64 (.op .add .i64 (.var 15) (.lit 3)))]) G [J] h' := fun {y G h' fp'} hy ha e12 k1 k2 k3 k4 => by
    refine again_of (xs := [.int .i64 ((m + 3 : Nat) : Int)]) (J := J) ?_ rfl (hJ _ _ ⟨m + 3, _, fp', rfl, by omega, ⟨K.kept.trans_nil k3 K.fresh, k1, fun b hb => ?_, k2, by rw [List.length_set]; exact K.len, fun b hb => ?_⟩, fun e => by rw [e] at hm2; simp at hm2⟩ ?_)
    · have := m1_val (k := 3) e12 (by omega) (by omega)
      show [Value.int .i64 (vi ((X.op .add .i64 (.var 15) (.lit 3)).den G))] = _
      rw [this]; simp
    · rcases k4 b hb with e | e
      · exact K.fresh b e
      · exact H.le_none K.kept.le_nil e
    · rcases List.mem_or_eq_of_mem_set hb with e | e
      · obtain ⟨a1, a2, a3⟩ := K.ok b e
        exact ⟨by omega, a2, a3⟩
      · subst e
        refine ⟨?_, fun z hz => ?_, hx3⟩
        · simp only [List.length_append, List.length_take, List.length_drop, List.length_cons, List.length_nil]; omega
        · rcases mem_ins hz with q | rfl
          · exact hx2 z q
          · exact ⟨hy.1, by rw [ha]; simp, by rw [hy.2]; exact n64_small (by omega) (by omega)⟩
    · simp only [gv_zero, vi_int]; omega
  refine ⟨fun _ => n0 rfl rfl, h_load [.int .u8 c0] ⟨⟨_, rfl⟩, trivial⟩ (fun _ => r0 K.kept rfl rfl) ?_⟩
  refine ⟨fun _ => ⟨?_, trivial⟩, fun _ => nb rfl rfl, fun _ => n1 rfl rfl, h_load [.int .u8 c1] ⟨⟨_, rfl⟩, trivial⟩ (fun _ => r1 K.kept rfl rfl) ⟨fun _ => nz (z := S) rfl (by omega), fun _ => n2 rfl rfl, h_load [.int .u8 c2] ⟨⟨_, rfl⟩, trivial⟩ (fun _ => r2 K.kept rfl rfl) ?_⟩⟩
  · show cmpOp .neq ((vlen u : Nat) : Int) 0 = true
    rw [hul, cmp_neq, decide_eq_true_eq]; omega
  refine ⟨fun _ => nz (z := R) rfl (by omega), fun _ => r2 K.kept rfl rfl, fun _ => r1 K.kept rfl rfl, fun _ => n0 rfl rfl, h_load [.int .u8 c0] ⟨⟨_, rfl⟩, trivial⟩ (fun _ => r0 K.kept rfl rfl) ?_⟩
  simp only [List.cons_append, List.nil_append]
  have rb : ∀ {h' : H}, KeptH h2 h' [] → ∀ {G : List Value}, gv G 14 = u → gv G 16 = .int .u8 c0 → Reads h' ((PE.fld (.idx (.var 14) BX 5) 0).den G) [w] := fun kk G e11 e35 => by rw [pb e11 e35]; exact hwr.le kk.le_nil
  have t1 := tmod_range (a := c1) (n := R) b1.1 (by omega)
  have t2 := tmod_range (a := c2) (n := S) b2.1 (by omega)
  have t3 := tmod_range (a := c1) (n := S) b1.1 (by omega)
  have t4 := tmod_range (a := c2) (n := R) b2.1 (by omega)
  refine h_ite (fun _ => ?_) (fun _ => ?_)
  · refine ⟨fun _ => n1 rfl rfl, h_load [.int .u8 c1] ⟨⟨_, rfl⟩, trivial⟩ (fun _ => r1 K.kept rfl rfl) ⟨fun _ => nz (z := R) rfl (by omega), fun _ => n2 rfl rfl, h_load [.int .u8 c2] ⟨⟨_, rfl⟩, trivial⟩ (fun _ => r2 K.kept rfl rfl) ⟨fun _ => nz (z := S) rfl (by omega), fun _ => n0 rfl rfl, h_load [.int .u8 c0] ⟨⟨_, rfl⟩, trivial⟩ (fun _ => r0 K.kept rfl rfl) ?_⟩⟩⟩
    refine h_load [w] ⟨hwfit, trivial⟩ (fun _ => rb (KeptH.refl _ _) rfl rfl) ⟨fun _ => nl rfl, h_load [w] ⟨hwfit, trivial⟩ (fun _ => rb (KeptH.refl _ _) rfl rfl) ⟨fun _ => nk1 (a := 22) (l := 23) (j := 24) rfl rfl rfl, ?_⟩⟩
    intro z1 hz1
    replace hz1 := hz1.trans (sl1 (a := 22) (l := 23) (j := 24) rfl rfl rfl)
    subst hz1
    refine h_load [w] ⟨hwfit, trivial⟩ (fun _ => rb (KeptH.refl _ _) rfl rfl) ⟨fun _ => nk2 (a := 22) (l := 23) (j := 26) rfl rfl rfl, ?_⟩
    intro z2 hz2
    replace hz2 := hz2.trans (sl2 (a := 22) (l := 23) (j := 26) rfl rfl rfl)
    subst hz2
    simp only [List.cons_append, List.nil_append]
    have hsrc : ∀ D : List Value, SV.denL ([.int .u8 p0, .int .u8 p1, .int .u8 p2, vs, .int .u8 rg, .int .u8 sl, mv, .int .i64 pp, v8, u9, .int .i64 i0, .int .i64 pp, .int .i64 R, .int .i64 S, u, .int .i64 (m : Int), .int .u8 c0, .int .u8 c1, .int .u8 c2, .int .u8 c0, .int .u8 c1, .int .u8 c2, .int .u8 c0, w, w, sliceV w 0 k 7, w, sliceV w k x.ins.length 7] ++ D) dE
        [(.int .u8 (.lit 8)), (.int .u8 (.lit 0)), (.int .i64 (.op .rem .i64 (.conv .i64 (.var 20)) (.var 12))), (.int .i64 (.op .rem .i64 (.conv .i64 (.var 21)) (.var 13))), (.int .i64 (.lit 0)), (.int .i64 (.lit 0)), (.cst (.slice none 0 0))] = insC (spillI 8 (c1.tmod R) (c2.tmod S)) (.slice none 0 0) := fun D => by
      show [Value.int .u8 8, .int .u8 0, .int .i64 (intOp .rem .i64 (IntKind.i64.wrap c1) R), .int .i64 (intOp .rem .i64 (IntKind.i64.wrap c2) S), .int .i64 0, .int .i64 0, .slice none 0 0] = _
      rw [rem_lit b1, rem_lit b2]; rfl
    have ok := fill_ok (r := R) (s := S) (d := c1.tmod R) (a := c2.tmod S) t1 t2
    refine ⟨fun b0' hb0' => ⟨fun _ => rb (KeptH.put hb0' _) rfl rfl, fun _ => rb (KeptH.put hb0' _) rfl rfl, ?_, ?_⟩, fun _ => rb (KeptH.refl _ _) rfl rfl, fun _ => rb (KeptH.refl _ _) rfl rfl, fun b0' hb0' => ?_⟩
    · exact ins_chain K.nd KL hkl (y := spillI 8 (c1.tmod R) (c2.tmod S)) rfl (by omega) hb0' (n := 24) [] [26, 24, 26, 24] [26, 24] [26, 24] rfl rfl rfl rfl rfl rfl (fun D => pb rfl rfl) (fun D => hsrc (_ :: D)) (by simp) (fun h' fp' D k1 k2 k3 k4 => fin ⟨ok, rfl⟩ rfl rfl k1 k2 k3 k4)
    · exact ins_chain K.nd KL hkl (y := spillI 8 (c1.tmod R) (c2.tmod S)) rfl (by omega) hb0' (n := 24) [26, 24] [26, 24] [26, 24] [26, 24] rfl rfl rfl rfl rfl rfl (fun D => pb rfl rfl) (fun D => hsrc (_ :: D)) (by simp) (fun h' fp' D k1 k2 k3 k4 => fin ⟨ok, rfl⟩ rfl rfl k1 k2 k3 k4)
    · exact ins_chain K.nd KL hkl (y := spillI 8 (c1.tmod R) (c2.tmod S)) rfl (by omega) hb0' (n := 24) [26, 24] [26, 24] [26, 24] [26, 24] rfl rfl rfl rfl rfl rfl (fun D => pb rfl rfl) (fun D => hsrc (_ :: D)) (by simp) (fun h' fp' D k1 k2 k3 k4 => fin ⟨ok, rfl⟩ rfl rfl k1 k2 k3 k4)
  · refine ⟨fun _ => n0 rfl rfl, h_load [.int .u8 c0] ⟨⟨_, rfl⟩, trivial⟩ (fun _ => r0 K.kept rfl rfl) ?_⟩
    refine h_load [w] ⟨hwfit, trivial⟩ (fun _ => rb (KeptH.refl _ _) rfl rfl) ⟨fun _ => nl rfl, h_load [w] ⟨hwfit, trivial⟩ (fun _ => rb (KeptH.refl _ _) rfl rfl) ⟨fun _ => nk1 (a := 20) (l := 21) (j := 22) rfl rfl rfl, ?_⟩⟩
    intro z1 hz1
    replace hz1 := hz1.trans (sl1 (a := 20) (l := 21) (j := 22) rfl rfl rfl)
    subst hz1
    refine h_load [w] ⟨hwfit, trivial⟩ (fun _ => rb (KeptH.refl _ _) rfl rfl) ⟨fun _ => nk2 (a := 20) (l := 21) (j := 24) rfl rfl rfl, ?_⟩
    intro z2 hz2
    replace hz2 := hz2.trans (sl2 (a := 20) (l := 21) (j := 24) rfl rfl rfl)
    subst hz2
    simp only [List.cons_append, List.nil_append]
    have hsrc : ∀ D : List Value, SV.denL ([.int .u8 p0, .int .u8 p1, .int .u8 p2, vs, .int .u8 rg, .int .u8 sl, mv, .int .i64 pp, v8, u9, .int .i64 i0, .int .i64 pp, .int .i64 R, .int .i64 S, u, .int .i64 (m : Int), .int .u8 c0, .int .u8 c1, .int .u8 c2, .int .u8 c0, .int .u8 c0, w, w, sliceV w 0 k 7, w, sliceV w k x.ins.length 7] ++ D) dE
        [(.int .u8 (.lit 7)), (.int .u8 (.lit 0)), (.int .i64 (.op .rem .i64 (.conv .i64 (.var 17)) (.var 13))), (.int .i64 (.op .rem .i64 (.conv .i64 (.var 18)) (.var 12))), (.int .i64 (.lit 0)), (.int .i64 (.lit 0)), (.cst (.slice none 0 0))] = insC (spillI 7 (c1.tmod S) (c2.tmod R)) (.slice none 0 0) := fun D => by
      show [Value.int .u8 7, .int .u8 0, .int .i64 (intOp .rem .i64 (IntKind.i64.wrap c1) S), .int .i64 (intOp .rem .i64 (IntKind.i64.wrap c2) R), .int .i64 0, .int .i64 0, .slice none 0 0] = _
      rw [rem_lit b1, rem_lit b2]; rfl
    have ok := spill_ok (r := R) (s := S) (d := c1.tmod S) (a := c2.tmod R) t3 t4
    refine ⟨fun b0' hb0' => ⟨fun _ => rb (KeptH.put hb0' _) rfl rfl, fun _ => rb (KeptH.put hb0' _) rfl rfl, ?_, ?_⟩, fun _ => rb (KeptH.refl _ _) rfl rfl, fun _ => rb (KeptH.refl _ _) rfl rfl, fun b0' hb0' => ?_⟩
    · exact ins_chain K.nd KL hkl (y := spillI 7 (c1.tmod S) (c2.tmod R)) rfl (by omega) hb0' (n := 22) [] [24, 22, 24, 22] [24, 22] [24, 22] rfl rfl rfl rfl rfl rfl (fun D => pb rfl rfl) (fun D => hsrc (_ :: D)) (by simp) (fun h' fp' D k1 k2 k3 k4 => fin ⟨ok, rfl⟩ rfl rfl k1 k2 k3 k4)
    · exact ins_chain K.nd KL hkl (y := spillI 7 (c1.tmod S) (c2.tmod R)) rfl (by omega) hb0' (n := 22) [24, 22] [24, 22] [24, 22] [24, 22] rfl rfl rfl rfl rfl rfl (fun D => pb rfl rfl) (fun D => hsrc (_ :: D)) (by simp) (fun h' fp' D k1 k2 k3 k4 => fin ⟨ok, rfl⟩ rfl rfl k1 k2 k3 k4)
    · exact ins_chain K.nd KL hkl (y := spillI 7 (c1.tmod S) (c2.tmod R)) rfl (by omega) hb0' (n := 22) [24, 22] [24, 22] [24, 22] [24, 22] rfl rfl rfl rfl rfl rfl (fun D => pb rfl rfl) (fun D => hsrc (_ :: D)) (by simp) (fun h' fp' D k1 k2 k3 k4 => fin ⟨ok, rfl⟩ rfl rfl k1 k2 k3 k4)

theorem madeM_ok {p0 p2 R S : Int} {l : List Int} (h0 : 0 ≤ p0) (h2 : 0 ≤ p2) (hl : InB l) (hR : 3 ≤ R ∧ R ≤ 8) : ∀ b ∈ (madeB p0 0 p2 l).map (modB R), MOk R S (madeN p2) 8 b := by
  intro b hb
  obtain ⟨x, hx, rfl⟩ := List.mem_map.1 hb
  have bb := madeV_range (p1 := 0) h0 (by omega)
  have c := madeN_range h2
  obtain ⟨k1, k2, k3⟩ := blksM_ok (w := madeV p0 0) (m := madeN p2) (by omega) (Int.le_refl _) (by omega) (Int.le_refl _) hl _ x hx
  refine ⟨by simpa [modB] using k1, fun y hy => ?_, modE_ok (by omega) k3⟩
  obtain ⟨z, hz, rfl⟩ := List.mem_map.1 hy
  have hz0 := k2 z hz
  refine ⟨mofM_kind hR.1 hR.2 (modI_ok (by omega) hz0), ?_, madeB_n hl x hx z hz⟩
  have := (ofM_zeroJ hz0).1
  simp only [modI, List.length_map]; omega
theorem s18 {h : H} {vs mv : Value} {p0 p1 p2 rg sl : Int} {l ml : List Int} (hs : BytesAt h vs l) (hmv : BytesAt h mv ml) (h0 : 0 ≤ p0) (h1 : 0 ≤ p1) (h2 : 0 ≤ p2) (hr : 0 ≤ rg ∧ rg ≤ 255) (hsl : 0 ≤ sl ∧ sl ≤ 255) :
    CallsA Try.prog 18 (fun _ => [.agg #[.int .u8 p0, .int .u8 p1, .int .u8 p2, vs], .int .u8 rg, .int .u8 sl, mv]) [] h (Ret fun r h' => ∃ u bs fp, r = .agg #[.int .i64 (madeP p0), .int .i64 (mR rg), .int .i64 (mS (madeP p0) sl), u] ∧
      MadeR h (madeP p0) (mR rg) (mS (madeP p0) sl) (madeN p2) 70 u bs fp h' ∧ (ml = [] → bs = (madeB p0 0 p2 l).map (modB (mR rg)))) := by
  refine c18 (G := [.int .u8 p0, .int .u8 p1, .int .u8 p2, vs, .int .u8 rg, .int .u8 sl, mv]) ⟨⟨_, rfl⟩, ⟨_, rfl⟩, ⟨_, rfl⟩, hs.fit, ⟨_, rfl⟩, ⟨_, rfl⟩, hmv.fit, trivial⟩ ?_
  have a := madeP_range h0
  have hRr := mR_range hr.1
  have hSr := mS_range a hsl.1
  have hBl := madeB_len (p0 := p0) (p1 := 0) (l := l) h2
  refine made_first hs hmv h0 h1 h2 hr hsl fun h' u9 v8 u i fp J k1 k2 k3 k4 => ?_
  refine made_second (bs1 := (madeB p0 0 p2 l).map (modB (mR rg))) (fp1 := fp) (N := madeN p2) hmv hRr ⟨hSr.1, hSr.2.2⟩ (madeN_range h2) ⟨k1, k2, k4, k3, by rw [List.length_map]; exact hBl, madeM_ok h0 h2 hs.inB hRr⟩ fun h'' bs fp' M hsame => ?_
  exact ⟨rfl, u, bs, fp', rfl, M, hsame⟩
theorem MadeR.check {h h' : H} {p R S N : Int} {u : Value} {bs : List Blk} {fp : List Nat} (M : MadeR h p R S N 70 u bs fp h') (hp : 0 ≤ p ∧ p ≤ 4) (hR : 3 ≤ R ∧ R ≤ 8) (hS : 1 ≤ S ∧ p ≤ S ∧ S ≤ 11) (hN : 1 ≤ N ∧ N ≤ 7) : mcheckM p R S bs = (0, 0, 0) := by
  have hl := M.len
  exact mcheck_ok hp.1 hp.2 hR.1 hR.2 hS.2.1 (by omega) (by omega) (by omega) (n := 70) (by omega) (by rw [hl]; exact M.ok)
theorem MadeR.small {h h' : H} {p R S N : Int} {u : Value} {bs : List Blk} {fp : List Nat} (M : MadeR h p R S N 70 u bs fp h') (hN : 1 ≤ N ∧ N ≤ 7) : Small bs := by
  have hl := M.len
  refine ⟨by omega, fun b hb => ?_⟩
  obtain ⟨k1, k2, k3⟩ := M.ok b hb
  exact ⟨by omega, fun y hy => (k2 y hy).2.1⟩
/-- The check and the document's answer, one behind the other. -/
theorem two_checksM {R : Value → List (List Value) → H → Prop} {G : List Value} {L : Lv} {h : H} {k : Out} {i j t m : Nat} {p r s : Int} {v : Value} {bs : List Blk} (hi : gv G i = .int .i64 p) (hj : gv G j = .int .i64 r) (ht : gv G t = .int .i64 s) (hm : gv G m = v)
    (li : i < G.length) (lj : j < G.length) (lt : t < G.length) (lm : m < G.length) (hv : BlksAt h v bs) (hk : ∀ h', h.le h' → holds Try.prog R k (G ++ faultG (mcheckM p r s bs) ++ faultG (mcheckM p r s bs)) L h') :
    holds Try.prog R (.call 43 [(.agg [(.int .i64 (.var i)), (.int .i64 (.var j)), (.int .i64 (.var t)), (.val m)])] [] [] [] [(true, [.int .i64, .int .i64, .int .i64])]
      (.call 20 [(.agg [(.int .i64 (.var i)), (.int .i64 (.var j)), (.int .i64 (.var t)), (.val m)])] [] [] [] [(true, [.int .i64, .int .i64, .int .i64])] k)) G L h := by
  refine h_call0 (Q := fun q h' => h.le h' ∧ q = faultV (mcheckM p r s bs)) ?_ ?_
  · simp only [SV.denL, SV.den, X.den, hi, hj, ht, hm, vi_int]
    exact s43 p r s v bs hv
  rintro _ h1 ⟨hl1, rfl⟩
  refine ⟨faultG (mcheckM p r s bs), faultG_fit _, rfl, h_call0 (Q := fun q h' => h1.le h' ∧ q = faultV (mcheckM p r s bs)) ?_ ?_⟩
  · simp only [SV.denL, SV.den, X.den, gv_of_lt li, gv_of_lt lj, gv_of_lt lt, gv_of_lt lm, hi, hj, ht, hm, vi_int]
    exact s20 p r s v bs (SlAt.le blkC_mono hl1 hv)
  rintro _ h2 ⟨hl2, rfl⟩
  exact ⟨faultG (mcheckM p r s bs), faultG_fit _, rfl, hk h2 (hl1.trans hl2)⟩
theorem src_all {h : H} {e : TypeId} {sz : Nat} {v : Value} {cs : List Value} {fp : List Nat} (H : RowF h e sz v cs fp) : SlSrc h cs (vlen v) v := by
  rcases H with ⟨rfl, rfl, rfl⟩ | ⟨b, n, c, r, rfl, h1, h2, h3, h4, rfl⟩
  · exact ⟨rfl, rfl⟩
  · have := RowF.row0 (h := h) (e := e) (sz := sz) (cs := cs) (.inr ⟨b, n, c, r, rfl, h1, h2, h3, h4, rfl⟩)
    have hr := this.reads (o := 0) (xs := cs) (fun j u hj => by simpa using hj)
    rw [add_zero'] at hr
    exact ⟨rfl, hr⟩
end Go.Proofs.Ythnoplfjcdkacaa
