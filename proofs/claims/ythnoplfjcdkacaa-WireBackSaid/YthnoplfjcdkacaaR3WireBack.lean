/-
  The law WireBack answers true. Conditions: none.
-/
import Derived.Test.YthnoplfjcdkacaaR3L
import Derived.Test.YthnoplfjcdkacaaR3G
import Derived.Test.YthnoplfjcdkacaaR3Lb
import Derived.Test.YthnoplfjcdkacaaR1Mm
import Derived.Test.YthnoplfjcdkacaaRows
set_option linter.unusedVariables false
set_option linter.unusedSimpArgs false
namespace Go.Proofs.Ythnoplfjcdkacaa
open Go Go.ChangeShapes Go.WideShapes Go.ChangeAt Go.RowKit

theorem s32g {h : H} {u v : Value} {p r s p' r' s' : Int} {bs cs : List Blk} (hu : BlksAt h u bs) (hv : BlksAt h v cs) (h1 : Okay bs) :
    CallsA Try.prog 32 (fun _ => [.agg #[.int .i64 p, .int .i64 r, .int .i64 s, u], .agg #[.int .i64 p', .int .i64 r', .int .i64 s', v]]) [] h (Ret fun q h' => h' = h ∧ ∃ b, q = .bool b ∧ (b = true ↔ p = p' ∧ r = r' ∧ s = s' ∧ bs = cs)) := by
  refine c32 (G := [.int .i64 p, .int .i64 r, .int .i64 s, u, .int .i64 p', .int .i64 r', .int .i64 s', v]) ⟨⟨_, rfl⟩, ⟨_, rfl⟩, ⟨_, rfl⟩, hu.fit, ⟨_, rfl⟩, ⟨_, rfl⟩, ⟨_, rfl⟩, hv.fit, trivial⟩ ?_
  refine h_ite (fun hc => h_call0 (s41g hu hv h1) ?_) (fun hc => ?_)
  · simp [X.den, gv_zero, gv_succ, vb_ite, cmp_eql] at hc
    rintro _ _ ⟨rfl, b, rfl, hb⟩
    exact ⟨[.bool b], ⟨⟨_, rfl⟩, trivial⟩, rfl, rfl, rfl, b, rfl, hb.trans ⟨fun e => ⟨by omega, by omega, by omega, e⟩, fun e => e.2.2.2⟩⟩
  · simp [X.den, gv_zero, gv_succ, vb_ite, cmp_eql] at hc
    exact ⟨rfl, rfl, false, rfl, fun e => absurd e (by simp), fun e => absurd e.2.2.1 (hc e.1 e.2.1)⟩
/-- Two things made, in any of the orders. -/
def armG (m1 m2 : Out → Out) (K : Out) : Out :=
  (.both (m1 (.both (m2 (.both K K)) (.both (.both (m2 K) (m2 K)) (.both (m2 K) (m2 K)))))
   (.both (.both (m1 (.both (m2 K) (m2 K))) (m1 (m2 K))) (.both (m1 (.both (m2 K) (m2 K))) (m1 (m2 K)))))
theorem armG_holds {R : Value → List (List Value) → H → Prop} {G : List Value} {L : Lv} {g : H} {K : Out} {m1 m2 : Out → Out} {A : List Value → H → Prop} {B : List Value → List Value → H → H → Prop} (h1 : ∀ k, (∀ D g', A D g' → holds Try.prog R k (G ++ D) L g') → holds Try.prog R (m1 k) G L g)
    (h2 : ∀ D g1, A D g1 → ∀ k, (∀ D2 g2, B D D2 g1 g2 → holds Try.prog R k (G ++ D ++ D2) L g2) → holds Try.prog R (m2 k) (G ++ D) L g1)
    (hk : ∀ D D2 g1 g2, A D g1 → B D D2 g1 g2 → holds Try.prog R K (G ++ D ++ D2) L g2) : holds Try.prog R (armG m1 m2 K) G L g := by
  have one : ∀ D g1, A D g1 → holds Try.prog R (m2 K) (G ++ D) L g1 := fun D g1 c => h2 D g1 c _ fun D2 g2 d => hk D D2 g1 g2 c d
  have two : ∀ D g1, A D g1 → holds Try.prog R (m2 (.both K K)) (G ++ D) L g1 := fun D g1 c => h2 D g1 c _ fun D2 g2 d => ⟨hk D D2 g1 g2 c d, hk D D2 g1 g2 c d⟩
  have A1 := h1 _ fun D g1 c => one D g1 c
  have A2 := h1 (.both (m2 K) (m2 K)) fun D g1 c => ⟨one D g1 c, one D g1 c⟩
  exact ⟨h1 _ fun D g1 c => ⟨two D g1 c, ⟨one D g1 c, one D g1 c⟩, one D g1 c, one D g1 c⟩, ⟨A2, A1⟩, A2, A1⟩
def mkF (k : Out) : Out := .call 12 [(.agg [(.int .u8 (.var 0)), (.int .u8 (.var 1)), (.int .u8 (.var 2)), (.val 3)])] [] [] [] [(true, [.int .i64, .int .i64, .sl])] k
def mkC (k : Out) : Out := .call 18 [(.agg [(.int .u8 (.var 0)), (.int .u8 (.var 1)), (.int .u8 (.var 2)), (.val 3)]), (.int .u8 (.var 4)), (.int .u8 (.lit 3)), (.val 5)] [] [] [] [(true, [.int .i64, .int .i64, .int .i64, .sl])] k
def remX (i : Nat) : X := .conv .i64 (.op .rem .u64 (.conv .u64 (.var 6)) (.conv .u64 (.len i)))
def sliceT (i : Nat) (k : Out) : Out := .need (.tt true) [(.cmp .neq (.conv .u64 (.len i)) (.lit 0))] (.need (.tt true) [(.cmp .geq (remX i) (.lit 0)), (.cmp .leq (remX i) (.cap i))] (.bnd (.slice (.val i) none (some (remX i)) 1) k))
def rdF (i : Nat) (k : Out) : Out := .call 28 [(.val i)] [] [] [] [(true, [.int .i64, .int .i64, .sl]), (false, [.int .i64])] k
def rdC (i : Nat) (k : Out) : Out := .call 30 [(.val i)] [] [] [] [(true, [.int .i64, .int .i64, .int .i64, .sl]), (false, [.int .i64])] k
def moreT (i : Nat) (k : Out) : Out := .app 5 1 1 (.val i) (.cells [(.int .u8 (.lit 0))] 1) k
def no : Out := .done (.bool (.tt false)) []
def endT : Out := .done (.bool (.ite (.ite (.ite (.cmp .eql (.var 34) (.lit 3)) (.cmp .eql (.var 40) (.lit 3)) (.tt false)) (.cmp .eql (.var 45) (.lit 5)) (.tt false)) (.cmp .eql (.var 51) (.lit 5)) (.tt false))) []
def lateT : Out := sliceT 15 (rdF 30 (sliceT 17 (rdC 35 (moreT 15 (rdF 41 (moreT 17 (rdC 46 endT)))))))
def midT : Out := .ite (.not (.ite (.ite (.ite (.cmp .neq (.var 16) (.lit 0)) (.tt true) (.cmp .neq (.var 18) (.lit 0))) (.tt true) (.cmp .neq (.var 22) (.lit 0))) (.tt true) (.cmp .neq (.var 27) (.lit 0))))
  (.call 17 [(.agg [(.int .i64 (.var 19)), (.int .i64 (.var 20)), (.val 21)]), (.agg [(.int .i64 (.var 8)), (.int .i64 (.var 9)), (.val 10)])] [] [] [] [(false, [.bool])]
   (.ite (.var 28) (.call 32 [(.agg [(.int .i64 (.var 23)), (.int .i64 (.var 24)), (.int .i64 (.var 25)), (.val 26)]), (.agg [(.int .i64 (.var 11)), (.int .i64 (.var 12)), (.int .i64 (.var 13)), (.val 14)])] [] [] [] [(false, [.bool])]
     (.ite (.not (.var 29)) no lateT)) no)) no
def backT : Out := .call 14 [(.agg [(.int .i64 (.var 8)), (.int .i64 (.var 9)), (.val 10)])] [] [] [] [(false, [.sl]), (false, [.int .i64])]
  (.call 19 [(.agg [(.int .i64 (.var 11)), (.int .i64 (.var 12)), (.int .i64 (.var 13)), (.val 14)])] [] [] [] [(false, [.sl]), (false, [.int .i64])] (rdF 15 (rdC 17 midT)))
theorem t8_eq : t8 = .call 10 [] [] [] [] [(false, [.bool])] (.ite (.not (.var 7)) no (armG mkF mkC backT)) := by kernel_rfl
theorem encF_len {p n : Int} {bs : List Blk} (h : Fine bs) : 1 ≤ (encF p n bs).length ∧ (encF p n bs).length ≤ 90000000 := by
  have a1 := lebI_len p
  have a2 := lebI_len n
  have a3 := lebI_len bs.length
  have a4 := blks_enc_len h.2
  have h16 := h.1
  have a5 : 1 ≤ (lebI p).length := by
    unfold lebI
    generalize u64 p = m
    by_cases hm : m < 128
    · rw [leb_lt hm]; simp
    · rw [leb_ge (by omega)]; simp
  unfold encF encBs
  simp only [List.length_append]; omega
theorem encC_len {p r s : Int} {bs : List Blk} (h : Fine bs) : 1 ≤ (encC p r s bs).length ∧ (encC p r s bs).length ≤ 100000000 := by
  have a1 := lebI_len r
  have := encF_len (p := p) (n := s) h
  have e : (encC p r s bs).length = (encF p s bs).length + (lebI r).length := by unfold encC encF; simp only [List.length_append]; omega
  omega
theorem rem_val {G : List Value} {i n : Nat} {c : Int} (e6 : gv G 6 = .int .i64 c) (en : vlen (gv G i) = n) (h0 : 0 < n) (h1 : n ≤ 1000000000) :
    vi ((remX i).den G) = ((u64 c % n : Nat) : Int) ∧ vb ((X.cmp .neq (.conv .u64 (.len i)) (.lit 0)).den G) = true := by
  have hn : IntKind.u64.wrap (n : Int) = (n : Int) := u64_id (by omega) (by omega)
  have hlt : u64 c % n < n := Nat.mod_lt _ h0
  constructor
  · simp only [remX, X.den, e6, en, vi_int, hn, u64_wrap]
    have : intOp .rem .u64 ((u64 c : Nat) : Int) (n : Int) = ((u64 c % n : Nat) : Int) := by
      simp only [intOp]
      rw [Int.tmod_eq_emod_of_nonneg (by omega)]; rfl
    rw [this, wrap_i64 (by omega) (by omega)]
  · simp only [X.den, en, vi_int, vb_bool, hn, cmp_neq, decide_eq_true_eq]; omega
/-- A slice's beginning. -/
theorem slice_step {R : Value → List (List Value) → H → Prop} {G : List Value} {L : Lv} {h : H} {k : Out} {i : Nat} {x : Value} {l : List Int} {c : Int} (e6 : gv G 6 = .int .i64 c) (ei : gv G i = x) (hx : BytesAt h x l) (h0 : 1 ≤ l.length) (h1 : l.length ≤ 100000000)
    (HK : ∀ z m, BytesAt h z m → Cut m l → m.length ≤ 100000000 → holds Try.prog R k (G ++ [z]) L h) : holds Try.prog R (sliceT i k) G L h := by
  have hl := hx.len
  obtain ⟨r1, r2⟩ := rem_val (G := G) (i := i) (n := l.length) e6 (by rw [ei]; exact hl) (by omega) (by omega)
  have hlt : u64 c % l.length < l.length := Nat.mod_lt _ (by omega)
  have hcap : l.length ≤ vcap x := by
    obtain ⟨a, n, cc, rfl, _, h3⟩ := hx.fit
    simp only [vlen_sl] at hl
    simp only [vcap_sl]; omega
  refine ⟨fun _ => ⟨r2, trivial⟩, fun _ => ⟨?_, ?_, trivial⟩, ?_⟩
  · show vb ((X.cmp .geq (remX i) (.lit 0)).den G) = true
    simp only [X.den, r1, vi_int, vb_bool]; exact nat_ge0 _
  · show vb ((X.cmp .leq (remX i) (.cap i)).den G) = true
    simp only [X.den, r1, ei, vi_int, vb_bool, cmp_leq, decide_eq_true_eq]; omega
  · rintro z rfl
    have ez : LF.den G (.slice (.val i) none (some (remX i)) 1) = sliceV x 0 (u64 c % l.length) 1 := by
      simp only [LF.den, SV.den, optN, ei, r1, Int.toNat_natCast]
    rw [ez]
    have hs := SlAt.slice hx (lo := 0) (hi := u64 c % l.length) (by omega) (by omega)
    rw [List.drop_zero, Nat.sub_zero] at hs
    exact HK _ _ hs (cut_take hlt) (by rw [List.length_take]; omega)
theorem OwnB.other {g g2 hk h' : H} {x y : Value} {l m : List Int} (ox : OwnB g g2 x l) (oy : OwnB g2 hk y m) (hX : hk.leX (vbase x) h') : OwnB g2 h' y m := by
  obtain ⟨ox, -⟩ := ox
  obtain ⟨oy, hb⟩ := oy
  refine ⟨?_, hb⟩
  rcases oy with oy | ⟨b, n, c, r, rfl, e1, e2, e3, e4, e5⟩
  · exact .inl oy
  · refine .inr ⟨b, n, c, r, rfl, hX _ _ (fun a ha => ?_) e1, e2, e3, e4, e5⟩
    rcases ox with ⟨rfl, -⟩ | ⟨b', n', c', r', rfl, f1, -⟩
    · cases ha
    · cases ha
      intro e
      simp only at e
      subst e
      rw [e5] at f1; cases f1
/-- A byte more. -/
theorem more_step {R : Value → List (List Value) → H → Prop} {G : List Value} {L : Lv} {g h : H} {k : Out} {i : Nat} {x : Value} {l : List Int} (ei : gv G i = x) (o : OwnB g h x l) (hle : g.le h) (h1 : l.length ≤ 100000000)
    (HK : ∀ z h', OwnB g h' z (l ++ [0]) → g.le h' → h.leX (vbase x) h' → holds Try.prog R k (G ++ [z]) L h') : holds Try.prog R (moreT i k) G L h := by
  refine ⟨[.int .u8 0], 1, ⟨rfl, rfl⟩, ?_⟩
  simp only [SV.den, ei]
  refine app_row o.1 hle (by simp) (by rw [zero1]; rfl) (by rw [o.len]; omega) fun v' h' k1 _ k3 k4 _ => HK v' h' ⟨?_, inB_app o.2 (fun b hb => by rw [List.mem_singleton] at hb; omega)⟩ k3 k4
  rw [List.map_append]; exact k1
theorem rdF_step {R : Value → List (List Value) → H → Prop} {G : List Value} {L : Lv} {h : H} {k : Out} {i : Nat} {x : Value} {l : List Int} (ei : gv G i = x) (hx : BytesAt h x l) (h1 : l.length ≤ 1000000000)
    (HK : ∀ u h', h.le h' → BlksAt h' u (readF l).1.2.2 → holds Try.prog R k (G ++ [.int .i64 (readF l).1.1, .int .i64 (readF l).1.2.1, u, .int .i64 (readF l).2]) L h') : holds Try.prog R (rdF i k) G L h := by
  refine h_call0 (Q := fun r h' => h.le h' ∧ ∃ u fp, r = .tuple #[.agg #[.int .i64 (readF l).1.1, .int .i64 (readF l).1.2.1, u], .int .i64 (readF l).2] ∧ OwnBlks h' u (readF l).1.2.2 fp ∧ Fresh h fp ∧ fp.Nodup) ?_ ?_
  · have := s28 hx h1
    simp only [SV.denL, SV.den, ei]
    exact this
  · rintro _ h' ⟨hl, u, fp, rfl, hu, -, -⟩
    exact ⟨[.int .i64 (readF l).1.1, .int .i64 (readF l).1.2.1, u, .int .i64 (readF l).2], ⟨⟨_, rfl⟩, ⟨_, rfl⟩, (OwnBlks.at hu).fit, ⟨_, rfl⟩, trivial⟩, rfl, HK u h' hl (OwnBlks.at hu)⟩
theorem rdC_step {R : Value → List (List Value) → H → Prop} {G : List Value} {L : Lv} {h : H} {k : Out} {i : Nat} {x : Value} {l : List Int} (ei : gv G i = x) (hx : BytesAt h x l) (h1 : l.length ≤ 1000000000)
    (HK : ∀ u h', h.le h' → BlksAt h' u (readC l).1.2.2.2 → holds Try.prog R k (G ++ [.int .i64 (readC l).1.1, .int .i64 (readC l).1.2.1, .int .i64 (readC l).1.2.2.1, u, .int .i64 (readC l).2]) L h') : holds Try.prog R (rdC i k) G L h := by
  refine h_call0 (Q := fun r h' => h.le h' ∧ ∃ u fp, r = .tuple #[.agg #[.int .i64 (readC l).1.1, .int .i64 (readC l).1.2.1, .int .i64 (readC l).1.2.2.1, u], .int .i64 (readC l).2] ∧ OwnBlks h' u (readC l).1.2.2.2 fp ∧ Fresh h fp ∧ fp.Nodup) ?_ ?_
  · have := s30 hx h1
    simp only [SV.denL, SV.den, ei]
    exact this
  · rintro _ h' ⟨hl, u, fp, rfl, hu, -, -⟩
    exact ⟨[.int .i64 (readC l).1.1, .int .i64 (readC l).1.2.1, .int .i64 (readC l).1.2.2.1, u, .int .i64 (readC l).2], ⟨⟨_, rfl⟩, ⟨_, rfl⟩, ⟨_, rfl⟩, (OwnBlks.at hu).fit, ⟨_, rfl⟩, trivial⟩, rfl, HK u h' hl (OwnBlks.at hu)⟩
set_option maxRecDepth 8000 in
theorem back_holds {L : Lv} {h g : H} {a0 a1 a2 a3 a4 a5 u uc : Value} {ct P V P' R' S' : Int} {B C : List Blk} (hl : h.le g) (hu : BlksAt g u B) (huc : BlksAt g uc C) (c1 : (checkM P V B).1 = 0) (n1 : NB B) (ok1 : Okay B) (c2 : (mcheckM P' R' S' C).1 = 0) (n2 : NB C) (ok2 : Okay C) :
    holds Try.prog (Ret fun r h' => h.le h' ∧ r = .bool true) backT [a0, a1, a2, a3, a4, a5, .int .i64 ct, .bool true, .int .i64 P, .int .i64 V, u, .int .i64 P', .int .i64 R', .int .i64 S', uc] L g := by
  have F1 := encF_len (p := P) (n := V) ((checkM_good c1).fine n1)
  have F2 := encC_len (p := P') (r := R') (s := S') ((mcheckM_good c2).fine n2)
  have rf := readF_enc c1 n1
  have rc := readC_enc c2 n2
  refine h_call0 (s14 (p := P) (n := V) hu n1) ?_
  rintro _ g1 ⟨hl1, ⟨hc, -⟩ | ⟨-, x, rfl, ox⟩⟩
  · exact absurd c1 hc
  refine ⟨[x, .int .i64 0], ⟨ox.at.fit, ⟨_, rfl⟩, trivial⟩, rfl, ?_⟩
  simp only [List.cons_append, List.nil_append]
  refine h_call0 (s19 (p := P') (r := R') (s := S') (SlAt.le blkC_mono hl1 huc) n2) ?_
  rintro _ g2 ⟨hl2, ⟨hc, -⟩ | ⟨-, y, rfl, oy⟩⟩
  · exact absurd c2 hc
  refine ⟨[y, .int .i64 0], ⟨oy.at.fit, ⟨_, rfl⟩, trivial⟩, rfl, ?_⟩
  simp only [List.cons_append, List.nil_append]
  have hl02 := hl1.trans hl2
  refine rdF_step (x := x) rfl (ox.le hl2).at (by omega) fun uf g3 hl3 hf3 => ?_
  rw [rf] at hf3 ⊢
  simp only [List.cons_append, List.nil_append]
  refine rdC_step (x := y) rfl (oy.le hl3).at (by omega) fun uk g4 hl4 hc4 => ?_
  rw [rc] at hc4 ⊢
  simp only [List.cons_append, List.nil_append]
  have hl04 := (hl02.trans hl3).trans hl4
  refine iteT rfl ?_
  refine h_call0 (s17g (p := P) (n := V) (p' := P) (n' := V) (SlAt.le blkC_mono hl4 hf3) (SlAt.le blkC_mono hl04 hu) ok1) ?_
  rintro _ _ ⟨e4, b, rfl, hb⟩
  have e4' := e4.symm
  subst e4'
  obtain rfl : b = true := hb.2 ⟨rfl, rfl, rfl⟩
  refine ⟨[.bool true], ⟨⟨_, rfl⟩, trivial⟩, rfl, iteT rfl ?_⟩
  simp only [List.cons_append, List.nil_append]
  refine h_call0 (s32g (p := P') (r := R') (s := S') (p' := P') (r' := R') (s' := S') hc4 (SlAt.le blkC_mono hl04 huc) ok2) ?_
  rintro _ _ ⟨e4, b, rfl, hb⟩
  have e4' := e4.symm
  subst e4'
  obtain rfl : b = true := hb.2 ⟨rfl, rfl, rfl, rfl⟩
  refine ⟨[.bool true], ⟨⟨_, rfl⟩, trivial⟩, rfl, iteF rfl ?_⟩
  simp only [List.cons_append, List.nil_append]
  have hl24 := hl3.trans hl4
  refine slice_step (x := x) (c := ct) rfl rfl (ox.le (hl2.trans hl24)).at (by omega) (by omega) fun z m hz hm hml => ?_
  simp only [List.cons_append, List.nil_append]
  refine rdF_step (x := z) rfl hz (by omega) fun uf' g5 hl5 _ => ?_
  rw [readF_cut c1 n1 hm]
  simp only [List.cons_append, List.nil_append]
  have hl25 := hl24.trans hl5
  refine slice_step (x := y) (c := ct) rfl rfl (oy.le hl25).at (by omega) (by omega) fun z2 m2 hz2 hm2 hml2 => ?_
  simp only [List.cons_append, List.nil_append]
  refine rdC_step (x := z2) rfl hz2 (by omega) fun uk' g6 hl6 _ => ?_
  rw [readC_cut c2 n2 hm2]
  simp only [List.cons_append, List.nil_append]
  have hl26 := hl25.trans hl6
  have ox6 := ox.le (hl2.trans hl26)
  have oy6 := oy.le hl26
  refine more_step (x := x) rfl ox6 (hl02.trans hl26) (by omega) fun w g7 ow hl7 hX => ?_
  have oy7 := (ox.other oy6 hX).mono hl1
  simp only [List.cons_append, List.nil_append]
  refine rdF_step (x := w) rfl ow.at (by simp only [List.length_append, List.length_cons, List.length_nil]; omega) fun uf2 g8 hl8 _ => ?_
  rw [readF_more c1 n1]
  simp only [List.cons_append, List.nil_append]
  refine more_step (x := y) rfl (oy7.le hl8) (hl7.trans hl8) (by omega) fun w2 g9 ow2 hl9 _ => ?_
  simp only [List.cons_append, List.nil_append]
  refine rdC_step (x := w2) rfl ow2.at (by simp only [List.length_append, List.length_cons, List.length_nil]; omega) fun uk2 g10 hl10 _ => ?_
  rw [readC_more c2 n2]
  exact ⟨rfl, (hl.trans hl9).trans hl10, rfl⟩
theorem s8 {h : H} {vs mv : Value} {p0 p1 p2 rg ct : Int} {l ml : List Int} (hs : BytesAt h vs l) (hmv : BytesAt h mv ml) (h0 : 0 ≤ p0) (h1 : 0 ≤ p1) (h2 : 0 ≤ p2) (hr : 0 ≤ rg ∧ rg ≤ 255) :
    CallsA Try.prog 8 (fun _ => [.agg #[.int .u8 p0, .int .u8 p1, .int .u8 p2, vs], .int .u8 rg, mv, .int .i64 ct]) [] h (Ret fun r h' => h.le h' ∧ r = .bool true) := by
  refine c8 (G := [.int .u8 p0, .int .u8 p1, .int .u8 p2, vs, .int .u8 rg, mv, .int .i64 ct]) ⟨⟨_, rfl⟩, ⟨_, rfl⟩, ⟨_, rfl⟩, hs.fit, ⟨_, rfl⟩, hmv.fit, ⟨_, rfl⟩, trivial⟩ ?_
  rw [t8_eq]
  have hB := hs.inB
  have hN := madeN_range h2
  have hP := madeP_range h0
  have hR := mR_range hr.1
  have hS := mS_range (p := madeP p0) (sl := 3) hP (by omega)
  refine h_call0 s10 ?_
  rintro _ g ⟨hl, rfl⟩
  refine ⟨[.bool true], ⟨⟨_, rfl⟩, trivial⟩, rfl, h_ite (fun hc => by cases hc) (fun _ => ?_)⟩
  simp only [List.cons_append, List.nil_append]
  refine armG_holds (A := fun D g1 => g.le g1 ∧ ∃ u, D = [.int .i64 (madeP p0), .int .i64 (madeV p0 p1), u] ∧ BlksAt g1 u (madeB p0 p1 p2 l))
    (B := fun D D2 g1 g2 => g1.le g2 ∧ ∃ uc C, D2 = [.int .i64 (madeP p0), .int .i64 (mR rg), .int .i64 (mS (madeP p0) 3), uc] ∧ BlksAt g2 uc C ∧ (mcheckM (madeP p0) (mR rg) (mS (madeP p0) 3) C).1 = 0 ∧ NB C ∧ Okay C) ?_ ?_ ?_
  · intro k hk
    refine h_call0 (s12 (p0 := p0) (p1 := p1) (p2 := p2) (hs.le hl) h0 h1 h2) ?_
    rintro _ g1 ⟨hk1, u, fp, rfl, hu, -, -⟩
    exact ⟨[.int .i64 (madeP p0), .int .i64 (madeV p0 p1), u], ⟨⟨_, rfl⟩, ⟨_, rfl⟩, (OwnBlks.at hu).fit, trivial⟩, rfl, hk _ _ ⟨hk1.le_nil, u, rfl, OwnBlks.at hu⟩⟩
  · rintro _ g1 ⟨hl1, u, rfl, hu⟩ k hk
    have hl01 := hl.trans hl1
    refine h_call0 (s18 (p0 := p0) (p1 := p1) (p2 := p2) (rg := rg) (sl := 3) (hs.le hl01) (hmv.le hl01) h0 h1 h2 hr (by omega)) ?_
    rintro _ g2 ⟨uc, C, fp, rfl, M, -⟩
    have ck := M.check hP hR hS hN
    exact ⟨[.int .i64 (madeP p0), .int .i64 (mR rg), .int .i64 (mS (madeP p0) 3), uc], ⟨⟨_, rfl⟩, ⟨_, rfl⟩, ⟨_, rfl⟩, (OwnBlks.at M.own).fit, trivial⟩, rfl, hk _ _ ⟨M.kept.le_nil, uc, C, rfl, OwnBlks.at M.own, by rw [ck], fun b hb x hx => ((M.ok b hb).2.1 x hx).2.2,
      (M.small hN).1, fun b hb => ⟨by have := ((M.small hN).2 b hb).1; omega, fun x hx => by have := ((M.small hN).2 b hb).2 x hx; omega⟩⟩⟩
  · rintro _ _ g1 g2 ⟨hl1, u, rfl, hu⟩ ⟨hl2, uc, C, rfl, huc, c2, n2, ok2⟩
    exact back_holds (hl.trans (hl1.trans hl2)) (SlAt.le blkC_mono hl2 hu) huc (made_zero h0 h1 h2 hB) (madeB_n hB) (okay_made h0 h1 h2 hB) c2 n2 ok2
namespace wireBack
theorem own : ownKnob Try.prog.godebug = none := by kernel_rfl
set_option maxRecDepth 100000 in
theorem laidOut : laidOutB Try.prog = true := by kernel_rfl
set_option maxRecDepth 100000 in
theorem contract (H : Type) (enc : TypeId × Value → H) (W : World) (base : Nat) (args : Array Value) (ds gs : List (DataW H)) (before : List MemPlace)
    (hval : ∀ (j : Nat) t v, Try.f8.params[j]? = some t → args[j]? = some v → Value.okWide Try.prog W .any base t v)
    (hW : DataW.Whole enc Try.prog Try.f8.params.toList Rows.wireBackSpec.vars false W args.toList ds gs before) :
    Calls Try.prog 8 args W fun e W' => ∃ v, e = .returned v ∧ Rows.wireBackSpec.post enc Try.prog Try.f8 false true false false W args v W' := by
  have hW' := hW
  obtain ⟨p, q, hA, hV, rfl, hfz, hnd⟩ := hW
  rw [Try.params8] at hA hval
  obtain ⟨v0, vs0, d0, ds0, p0, q0, hargs, rfl, rfl, h0, r0⟩ := trodAll_cons hA
  obtain ⟨v1, vs1, d1, ds1, p1, q1, rfl, rfl, rfl, h1, r1⟩ := trodAll_cons r0
  obtain ⟨v2, vs2, d2, ds2, p2, q2, rfl, rfl, rfl, h2, r2⟩ := trodAll_cons r1
  obtain ⟨v3, vs3, d3, ds3, p3, q3, rfl, rfl, rfl, h3, r3⟩ := trodAll_cons r2
  obtain ⟨rfl, rfl, rfl⟩ := trodAll_nil r3
  obtain rfl : args = #[v0, v1, v2, v3] := by cases args; simp_all
  obtain ⟨cs0, rfl, -⟩ := okWide_struct Try.underlying27 (hval 0 27 v0 rfl rfl)
  obtain ⟨p0, p1, p2, vs, l, he0, g0, g1, g2, hs⟩ := rd_spec (Rd.of h0)
  obtain rfl : cs0 = ([Value.int .u8 p0, .int .u8 p1, .int .u8 p2, vs]).toArray := by rw [← he0]; simp [Value.cells]
  obtain ⟨rg, rfl, -, -, wf1⟩ := open_int Try.underlying5 (hval 1 5 v1 rfl rfl) h1
  obtain ⟨a2, n2, c2, rfl⟩ := okWide_slice Try.underlying25 (hval 2 25 v2 rfl rfl)
  obtain ⟨mv, ml, he2, hmv, -⟩ := rd_bytes (Rd.of h2)
  obtain rfl : Value.slice a2 n2 c2 = mv := by simpa [Value.cells] using he2
  obtain ⟨ct, rfl, -, -, wf3⟩ := open_int Try.underlying3 (hval 3 3 v3 rfl rfl) h3
  refine (law_calls (f := 8) (args := [.agg ([Value.int .u8 p0, .int .u8 p1, .int .u8 p2, vs]).toArray, .int .u8 rg, .slice a2 n2 c2, .int .i64 ct]) (s8 hs hmv g0 g1 g2 (u8r wf1))).mono ?_
  rintro e' W' ⟨rfl, bel⟩
  exact ⟨_, rfl, law_post laidOut hW' rfl (of_decide_eq_true (by kernel_rfl)) rfl Try.underlying4 rfl bel⟩
set_option maxRecDepth 100000 in
theorem lifted (os : Os) (started : os.Started) (H : Type) (enc : TypeId × Value → H) :
    ReturnsInHanded {} Try.checked os 8 .any (Rows.wireBackSpec.pre6 enc Try.prog Try.f8 Rows.wireBackRow.domain false) (Rows.wireBackSpec.post enc Try.prog Try.f8 false true false false) := by
  refine returnsInHanded_of_change (C := Try.checked) own started (by kernel_rfl) Try.func8
    (ChangeSpec.witness6 (enc := enc) (C := Try.checked) false ⟨#[], #[.agg #[.int .u8 0, .int .u8 0, .int .u8 0, .slice none 0 0], .int .u8 0, .slice none 0 0, .int .i64 0], []⟩ 8 (by kernel_rfl) (by kernel_rfl) (by kernel_rfl) (by kernel_rfl)) ?_
  intro W base args ds gs before hval hW _ _
  exact contract H enc W base args ds gs before hval hW
set_option maxRecDepth 100000 in
theorem proved : Rows.WireBackSaid :=
  OpenClaim.holds_of_wide 8 Try.f8 rfl rfl rfl rfl rfl rfl rfl ⟨rfl, rfl, rfl, rfl, rfl⟩ rfl rfl rfl rfl rfl (by kernel_rfl) Try.func8 (by kernel_rfl)
    (of_decide_eq_true (by kernel_rfl)) (by unfold Func.isWrapper; first | (rw [if_pos (by decide +kernel)]; kernel_rfl) | (rw [if_neg (by decide +kernel)]; exact ⟨rfl, rfl⟩))
    (fun os started H enc _ => lifted os started H enc)
end wireBack
/-- The row, under a short name, for the claim. -/
theorem wireBackHolds : Rows.WireBackSaid := wireBack.proved
#print axioms wireBackHolds
end Go.Proofs.Ythnoplfjcdkacaa
