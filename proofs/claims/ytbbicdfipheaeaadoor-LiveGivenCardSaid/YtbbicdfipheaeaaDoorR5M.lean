/-
  What is needed ahead of each block, and behind it: what live.Of computes. Conditions: the blocks' numbers are small.
-/
import Derived.Test.YtbbicdfipheaeaaDoorR5L
set_option linter.unusedVariables false
set_option linter.unusedSimpArgs false
namespace Go.Proofs.YtbbicdfipheaeaaDoor
open Go

def passT (ch n : Nat) : Out :=
  (.loop 0 [(.int .i64 (.op .sub .i64 (.len 0) (.lit 1))), (.val ch)] [.int .i64, .sl] 
   (.ite (.cmp .geq (.var n) (.lit 0))
    (.need (.tt true) [(.cmp .geq (.var n) (.lit 0)), (.cmp .lss (.var n) (.len 0))] 
    (.load (.tt true) (.idx (.var 0) (.var n) 7) [.int .u8, .int .u8, .int .i64, .int .i64, .int .i64, .int .i64, .sl] 
    (.call 62 [(.agg [(.int .u8 (.var (n + 2))), (.int .u8 (.var (n + 3))), (.int .i64 (.var (n + 4))), (.int .i64 (.var (n + 5))), (.int .i64 (.var (n + 6))), (.int .i64 (.var (n + 7))), (.val (n + 8))]), (.loc 5 0)] [5] [[(.val (n + 1))]] [[.sl]] [] 
    (.again 0 [(.int .i64 (.op .sub .i64 (.var n) (.lit 1))), (.val (n + 9))]))))
    (.done (.agg [(.val (n + 1))]) [])))
theorem sub_one {k : Nat} (h : k ≤ 1000000) : intOp .sub .i64 (k : Int) 1 = (k : Int) - 1 := by
  simp only [intOp]
  rw [wrap_i64 (by omega) (by omega)]
theorem drop_foldr {xs : List Ins} {m : Nat} {x : Ins} (h : xs[m]? = some x) (p : SP) : (xs.drop m).foldr backP p = backP x ((xs.drop (m + 1)).foldr backP p) := by
  obtain ⟨hlt, rfl⟩ := List.getElem?_eq_some_iff.1 h
  rw [List.drop_eq_getElem_cons hlt]; rfl
/-- A set of its own, made since. -/
def NewSet (h : H) (p : SP) (r : Value) (h' : H) : Prop := h.le h' ∧ ∃ c f, r = .agg #[c] ∧ SetF h' [c] p f ∧ Fresh h f ∧ f.Nodup
theorem passT_holds {G : List Value} {L : Lv} {h0 h : H} {w v : Value} {xs : List Ins} {ch n : Nat} {ws : List Int} {fp : List Nat} (hG : G.length = n) (hc : ch < n) (h00 : 0 < n) (ew : gv G 0 = w) (ec : gv G ch = v) (hw : SlAt 7 InsC h0 w xs) (hx : ∀ x ∈ xs, RegI x) (hl : xs.length ≤ 100000)
    (hs : SetIs h v ws fp) (hB : Base h0 h fp) : holds Tryd.prog (Ret (NewSet h0 (xs.foldr backP (hasW ws)))) (passT ch n) G L h := by
  have hwl := hw.len
  refine h_loop (fun ys h' => ∃ (k : Nat) (v' : Value) (ws' : List Int) (fp' : List Nat), ys = [.int .i64 ((k : Int) - 1), v'] ∧ k ≤ xs.length ∧ SetIs h' v' ws' fp' ∧ Base h0 h' fp' ∧ hasW ws' = (xs.drop k).foldr backP (hasW ws))
    (fun ys h' => (vi (gv ys 0) + 1).toNat) ⟨xs.length, v, ws, fp, ?_, Nat.le_refl _, hs, hB, by simp⟩ ?_
  · simp only [SV.denL, SV.den, X.den, ec, ew, hwl, vi_int, sub_one (k := xs.length) (by omega)]
  rintro ys h' J - ⟨k, v', ws', fp', rfl, hk, hs', hB', hw'⟩ hJ
  have g1 : ∀ D, gv (G ++ D) 0 = w := fun D => by rw [gv_of_lt (by omega), ew]
  have g3 : ∀ D, gv (G ++ D) n = gv D 0 := fun D => gv_eq0 hG
  have g4 : ∀ D j, gv (G ++ D) (n + j) = gv D j := fun D j => gv_eq hG j
  refine h_ite (fun hc => ?_) (fun hc => ?_)
  · simp only [X.den, g3, gv_zero, vi_int, vb_bool, cmp_geq, decide_eq_true_eq] at hc
    obtain ⟨m, rfl⟩ : ∃ m, k = m + 1 := ⟨k - 1, by omega⟩
    have hm : m < xs.length := by omega
    have e0 : ((m + 1 : Nat) : Int) - 1 = (m : Int) := by omega
    rw [e0]
    have hxm := List.getElem?_eq_getElem hm
    have hxin := List.getElem_mem hm
    generalize xs[m] = x at hxm hxin
    obtain ⟨cs, ⟨q, rfl, hq⟩, hrd⟩ := hw.get m x hxm
    refine ⟨fun _ => ?_, h_load (insC x q) (insFit x q hq.fit) (fun _ => ?_) ?_⟩
    · simp only [needs, X.den, g1, g3, gv_zero, vi_int, vb_bool, hwl, and_true]
      exact ⟨ge0 m, ltN hm⟩
    · simp only [PE.den, X.den, g1, g3, gv_zero, vi_int, Int.toNat_natCast]; exact hrd.le hB'.1
    simp only [List.append_assoc, List.cons_append, List.nil_append]
    refine h_call1 (Q := SetQ h' fp' (backP x (hasW ws'))) ?_ ?_
    · have := s62k hs' (hx x hxin) (hq.le (H.le_cut hB'.1 hB'.2))
      simp only [SV.denL, SV.den, X.den, g4, gv_zero, gv_succ, vi_int, insC]
      exact this
    rintro _ c h2 ⟨rfl, v2, ws2, fp2, rfl, hs2, hw2, hk2, hn2⟩
    refine ⟨⟨hs2.fit, trivial⟩, [], trivial, rfl, ?_⟩
    simp only [List.append_assoc, List.cons_append, List.nil_append]
    show J [_, _] h2
    simp only [SV.den, X.den, g3, g4, gv_zero, gv_succ, vi_int, insC, List.cons_append, List.nil_append, sub_one (k := m) (by omega)]
    refine hJ _ _ ⟨m, v2, ws2, fp2, rfl, by omega, hs2, hB'.step hk2 hn2, ?_⟩ ?_
    · rw [hw2, hw', drop_foldr hxm]
    · simp only [gv_zero, vi_int]; omega
  · simp only [X.den, g3, gv_zero, vi_int, vb_bool, cmp_geq, decide_eq_false_iff_not] at hc
    obtain rfl : k = 0 := by omega
    rw [List.drop_zero] at hw'
    refine ⟨rfl, hB'.1, v', fp', ?_, ⟨v', ws', rfl, hs', hw'⟩, hB'.2, hs'.nodup⟩
    simp only [SV.den, SV.denL, g4, gv_succ, gv_zero]
/-- A block's set, copied, with what its end takes. -/
theorem top_holds {R : Value → List (List Value) → H → Prop} {h : H} {w c : Value} {b : Blk} {p : SP} {f : List Nat} {k1 k2 : Out} (hw : Fits .sl w) (hp : SetF h [c] p f) (hb : RegB b)
    (h1 : lastM b.en = true → ∀ h' v0 v ws fp, SetIs h' v ws fp → Base h h' fp → hasW ws = topP b p → holds Tryd.prog R k1 [w, .int .u8 b.en.kind, .int .i64 b.en.a, .int .i64 b.en.to, .int .i64 b.en.el, c, v0, .int .i64 b.en.a, .bool true, v, .bool (!p b.en.a.toNat)] [] h')
    (h2 : lastM b.en = false → ∀ h' v ws fp, SetIs h' v ws fp → Base h h' fp → hasW ws = topP b p → holds Tryd.prog R k2 [w, .int .u8 b.en.kind, .int .i64 b.en.a, .int .i64 b.en.to, .int .i64 b.en.el, c, v, .int .i64 b.en.a, .bool false] [] h') :
    holds Tryd.prog R 
     (.call 19 [(.agg [(.val 5)])] [] [] [] [(true, [.sl])] 
     (.call 61 [(.agg [(.int .u8 (.var 1)), (.int .i64 (.var 2)), (.int .i64 (.var 3)), (.int .i64 (.var 4))])] [] [] [] [(false, [.int .i64]), (false, [.bool])] 
     (.ite (.var 8)
      (.call 55 [(.loc 5 0), (.int .i64 (.var 7))] [5] [[(.val 6)]] [[.sl]] [(false, [.bool])] k1) k2)))
      [w, .int .u8 b.en.kind, .int .i64 b.en.a, .int .i64 b.en.to, .int .i64 b.en.el, c] [] h := by
  obtain ⟨c0, ws, e0, hs, hws⟩ := hp
  obtain rfl : c = c0 := by simpa using e0
  refine h_call0 (s19 (rowF_words hs.1) hs.2.1 hs.2.2) ?_
  rintro _ g1 ⟨k1', v1, f1, rfl, hs1, hf1⟩
  have l1 : h.le g1 := k1'.le_nil
  refine ⟨[v1], ⟨hs1.fit, trivial⟩, rfl, ?_⟩
  simp only [List.cons_append, List.nil_append]
  refine h_call0 (s61 b.en) ?_
  rintro _ g1' ⟨e1, rfl⟩
  have e1' := e1.symm
  subst e1'
  refine ⟨[.int .i64 b.en.a, .bool (lastM b.en)], ⟨⟨_, rfl⟩, ⟨_, rfl⟩, trivial⟩, rfl, h_ite (fun hc => ?_) (fun hc => ?_)⟩
  · replace hc : lastM b.en = true := hc
    rw [hc]
    obtain ⟨a0, a1⟩ := hb.last hc
    obtain ⟨a, ha⟩ : ∃ a : Nat, b.en.a = a := ⟨b.en.a.toNat, by omega⟩
    simp only [List.cons_append, List.nil_append]
    refine h_call1 (Q := fun r c h2 => r = .bool (!hasW ws a) ∧ ∃ v' ws' fp', c = [v'] ∧ SetIs h2 v' ws' fp' ∧ (∀ y, hasW ws' y = (hasW ws y || decide (y = a))) ∧ KeptH g1 h2 f1 ∧ ∀ b ∈ fp', b ∈ f1 ∨ g1 b = none) ?_ ?_
    · have := s55k (x := a) hs1 (by omega)
      rw [← ha] at this
      exact this
    rintro _ c' h2 ⟨rfl, v2, ws2, fp2, rfl, hs2, hw2, hk2, hn2⟩
    refine ⟨⟨hs2.fit, trivial⟩, [.bool (!hasW ws a)], ⟨⟨_, rfl⟩, trivial⟩, rfl, ?_⟩
    simp only [List.cons_append, List.nil_append]
    have := h1 hc h2 v1 v2 ws2 fp2 hs2 (Base.step ⟨l1, hf1⟩ hk2 hn2) (by
      funext y
      rw [hw2, hws]
      unfold topP orP lastP
      rw [hc, ha]
      congr 1
      rw [Bool.true_and]
      exact decide_eq_decide.2 (by omega))
    rw [show b.en.a.toNat = a by omega, ← hws] at this
    exact this
  · replace hc : lastM b.en = false := hc
    rw [hc]
    simp only [List.cons_append, List.nil_append]
    refine h2 hc g1 v1 ws f1 hs1 ⟨l1, hf1⟩ ?_
    funext y
    unfold topP orP lastP
    rw [hc, hws]; simp
theorem s60 {h : H} {w c : Value} {b : Blk} {p : SP} {f : List Nat} (hw : SlAt 7 InsC h w b.ins) (hp : SetF h [c] p f) (hb : RegB b) :
    CallsA Tryd.prog 60 (fun _ => [.agg (w :: endC b.en).toArray, .agg #[c]]) [] h (Ret (NewSet h (passB b p))) := by
  refine c60 (G := [w, .int .u8 b.en.kind, .int .i64 b.en.a, .int .i64 b.en.to, .int .i64 b.en.el, c]) ⟨hw.fit, ⟨_, rfl⟩, ⟨_, rfl⟩, ⟨_, rfl⟩, ⟨_, rfl⟩, hp.fit1, trivial⟩ ?_
  refine top_holds hw.fit hp hb (fun _ h' v0 v ws fp hs hB e => ?_) (fun _ h' v ws fp hs hB e => ?_)
  · have := passT_holds (G := [w, .int .u8 b.en.kind, .int .i64 b.en.a, .int .i64 b.en.to, .int .i64 b.en.el, c, v0, .int .i64 b.en.a, .bool true, v, .bool (!p b.en.a.toNat)]) (L := []) (ch := 9) (n := 11) rfl (by omega) (by omega) rfl rfl hw hb.ins hb.len hs hB
    rw [e] at this
    exact this
  · have := passT_holds (G := [w, .int .u8 b.en.kind, .int .i64 b.en.a, .int .i64 b.en.to, .int .i64 b.en.el, c, v, .int .i64 b.en.a, .bool false]) (L := []) (ch := 6) (n := 9) rfl (by omega) (by omega) rfl rfl hw hb.ins hb.len hs hB
    rw [e] at this
    exact this

/-! ### All blocks -/
def RegL (B : List Blk) : Prop := ∀ b ∈ B, RegB b
def blkP (B : List Blk) (b : Nat) (p : SP) : SP := match B[b]? with | some x => passB x p | none => p
theorem blkP_at {B : List Blk} {b : Nat} {x : Blk} (h : B[b]? = some x) (p : SP) : blkP B b p = passB x p := by unfold blkP; rw [h]
theorem bnd_back {x : Ins} {p : SP} (hx : RegI x) (hp : Bnd p) : Bnd (backP x p) := bnd_or (fun y hy => hp y (by unfold lessP at hy; rw [Bool.and_eq_true] at hy; exact hy.1)) (fun y hy => by
  unfold useP at hy
  rw [decide_eq_true_eq] at hy
  have := hx.uses _ hy
  omega)
theorem bnd_top {b : Blk} {p : SP} (hb : RegB b) (hp : Bnd p) : Bnd (topP b p) := bnd_or hp (fun y hy => by
  unfold lastP at hy
  rw [Bool.and_eq_true, decide_eq_true_eq] at hy
  have := hb.last hy.1
  omega)
theorem bnd_passB {b : Blk} {p : SP} (hb : RegB b) (hp : Bnd p) : Bnd (passB b p) := by
  unfold passB
  have : ∀ xs : List Ins, (∀ x ∈ xs, RegI x) → Bnd (xs.foldr backP (topP b p)) := fun xs => by
    induction xs with
    | nil => intro _; exact bnd_top hb hp
    | cons x l ih => intro hx; exact bnd_back (hx x (List.mem_cons_self ..)) (ih fun y hy => hx y (List.mem_cons_of_mem _ hy))
  exact this _ hb.ins
theorem bnd_blkP {B : List Blk} (hB : RegL B) {b : Nat} {p : SP} (hp : Bnd p) : Bnd (blkP B b p) := by
  unfold blkP
  split
  · rename_i x h; exact bnd_passB (hB x (List.mem_of_getElem? h)) hp
  · exact hp
def flV (B : List Blk) : FlowS SP :=
  { N := B.length, frm := nextN B, first := fun _ _ => false, pass := blkP B, join := orP, chg := fun x y => decide (cntP x < cntP (orP x y)), le := fun p q => ∀ y, p y = true → q y = true, pot := cu 4096, ok := fun _ p => Bnd p }
attribute [local irreducible] cu in
theorem flV_good {B : List Blk} (hO : OkB B) (hB : RegL B) : (flV B).Good where
  frm_lt := fun _ h => nextN_lt hO h
  refl := fun x y h => h
  trans := fun h1 h2 y hy => h2 y (h1 y hy)
  left := fun x y z hz => by show (x z || y z) = true; rw [hz]; rfl
  right := fun x y z hz => by show (x z || y z) = true; rw [hz, Bool.or_true]
  same := fun {b a x y} _ _ hx hy hc => by
    replace hc : decide (cntP x < cntP (orP x (blkP B a y))) = false := hc
    rw [decide_eq_false_iff_not] at hc
    show orP x (blkP B a y) = x
    exact or_same (bnd_blkP hB hy) (by omega)
  fall := fun {b a x y} _ _ hx hy hc => by
    replace hc : decide (cntP x < cntP (orP x (blkP B a y))) = true := hc
    rw [decide_eq_true_eq] at hc
    show cu 4096 (orP x (blkP B a y)) < cu 4096 x
    have h1 := cnt_cu x
    have h2 := cnt_cu (orP x (blkP B a y))
    omega
  first_ok := fun hb y hy => by cases hy
  step_ok := fun {b a x y} _ _ hx hy => bnd_or hx (bnd_blkP hB hy)
theorem s57 {h : H} {ad : Addr} {u : Value} {B : List Blk} {b : Nat} (hr : Reads h ad [u]) (hv : BlksAt h u B) (hB : OkB B) (hb : b < B.length) :
    CallsA Tryd.prog 57 (fun _ => [natV b, .pointer (some ad)]) [] h (Ret fun v h' => h.le h' ∧ OwnInts h h' v ((nextN B b).map Int.ofNat)) := by
  refine c57 (G := [natV b, .pointer (some ad)]) ⟨⟨_, rfl⟩, ⟨_, rfl⟩, trivial⟩ (h_load [u] ⟨hv.fit, trivial⟩ (fun _ => hr) ?_)
  have hx := List.getElem?_eq_getElem hb
  generalize B[b] = x at hx
  have hrd := blks_get hv hx
  refine ⟨fun _ => ?_, h_load (endC x.en) ⟨⟨_, rfl⟩, ⟨_, rfl⟩, ⟨_, rfl⟩, ⟨_, rfl⟩, trivial⟩ (fun _ => ?_) ?_⟩
  · refine ⟨ge0 b, ?_, trivial⟩
    show cmpOp .lss (b : Int) ((vlen u : Nat) : Int) = true
    rw [hv.len]; exact ltN hb
  · show Reads h (((vaddr u).add (b * 5)).add 1) _
    rw [add_add]; exact hrd
  refine h_call0 (s47 x.en) ?_
  rintro v g ⟨hl, ho⟩
  exact ⟨[v], ⟨ho.fit, trivial⟩, rfl, rfl, hl, by rw [next_nat hB hx]; exact ho⟩
theorem s59 {h : H} {ad : Addr} {u c : Value} {B : List Blk} {b : Nat} {p : SP} {f : List Nat} (hr : Reads h ad [u]) (hv : BlksAt h u B) (hB : RegL B) (hb : b < B.length) (hp : SetF h [c] p f) :
    CallsA Tryd.prog 59 (fun _ => [natV b, .agg #[c], .pointer (some ad)]) [] h (Ret (NewSet h (blkP B b p))) := by
  refine c59 (G := [natV b, c, .pointer (some ad)]) ⟨⟨_, rfl⟩, hp.fit1, ⟨_, rfl⟩, trivial⟩ (h_load [u] ⟨hv.fit, trivial⟩ (fun _ => hr) ?_)
  have hx := List.getElem?_eq_getElem hb
  have hxm := List.getElem_mem hb
  generalize B[b] = x at hx hxm
  obtain ⟨cs, ⟨w, rfl, hw⟩, hrd⟩ := hv.get b x hx
  refine ⟨fun _ => ?_, h_load (w :: endC x.en) ⟨hw.fit, ⟨_, rfl⟩, ⟨_, rfl⟩, ⟨_, rfl⟩, ⟨_, rfl⟩, trivial⟩ (fun _ => hrd) ?_⟩
  · refine ⟨ge0 b, ?_, trivial⟩
    show cmpOp .lss (b : Int) ((vlen u : Nat) : Int) = true
    rw [hv.len]; exact ltN hb
  refine h_call0 (s60 hw hp (hB x hxm)) ?_
  rintro _ g ⟨hl, c', f', rfl, h1, h2, h3⟩
  exact ⟨[c'], ⟨h1.fit1, trivial⟩, rfl, fun _ => hr.le hl, rfl, hl, c', f', rfl, by rw [blkP_at hx]; exact h1, h2, h3⟩
theorem flV_C {h : H} {ad : Addr} {u : Value} {B : List Blk} (ht : Tab h) (hr : Reads h ad [u]) (hv : BlksAt h u B) (hO : OkB B) (hB : RegL B) (h2 : B.length ≤ 1000) :
    FlowC (fun c => .agg #[c]) .sl (flV B) 39 SetF h (.func (.func 57) #[] #[.pointer (some ad)]) (.func (.func 58) #[] #[]) (.func (.func 17) #[] #[]) (.func (.func 59) #[] #[.pointer (some ad)]) where
  fits := ⟨.inr ⟨_, _, _, rfl⟩, .inr ⟨_, _, _, rfl⟩, .inr ⟨_, _, _, rfl⟩, .inr ⟨_, _, _, rfl⟩, trivial⟩
  shape := fun ⟨v, ws, e, k, _⟩ => by
    obtain rfl : _ = v := by simpa using e
    exact k.fit
  good := setF_good
  frm := fun {h' b} hl hb => .of (enter (by decide)) ((s57 (hr.le hl) (SlAt.le blkC_mono hl hv) hO hb).mono fun v cs h' ⟨e, a, c⟩ => ⟨e, a, c, by have := nextN_len B b; show (nextN B b).length ≤ 1000; omega⟩)
  first := fun {h' b} hl hb => .of (enter (by decide)) (c58 (G := [natV b]) ⟨⟨_, rfl⟩, trivial⟩ ⟨rfl, H.le_refl _, _, [], rfl, setF_nil, (fun z hz => by cases hz), List.nodup_nil⟩)
  pass := fun {h' b x c f} hl hb hx hp => .of (enter (by decide)) (s59 (hr.le hl) (SlAt.le blkC_mono hl hv) hB hb hp)
  join := fun {h' va l fp i x a y c f} hl k hnd hf hi hN ha hx hy hp hd => .of (enter (by decide)) (s17p (ht.le hl) k hnd hi hp hd)
end Go.Proofs.YtbbicdfipheaeaaDoor
