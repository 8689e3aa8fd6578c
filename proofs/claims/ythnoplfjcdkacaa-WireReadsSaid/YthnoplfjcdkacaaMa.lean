/-
  What the functions that judge an instruction and an end compute. Conditions: as each contract says.
-/
import Derived.Test.YthnoplfjcdkacaaVa
import Derived.Test.YthnoplfjcdkacaaR1Tr
set_option linter.unusedVariables false
set_option linter.unusedSimpArgs false
namespace Go.Proofs.Ythnoplfjcdkacaa
open Go

structure Ins where
  kind : Int
  op : Int
  d : Int
  a : Int
  b : Int
  n : Int
  args : List Int
structure Fin4 where
  kind : Int
  a : Int
  to : Int
  el : Int
structure Blk where
  ins : List Ins
  en : Fin4
def insC (x : Ins) (v : Value) : List Value := [.int .u8 x.kind, .int .u8 x.op, .int .i64 x.d, .int .i64 x.a, .int .i64 x.b, .int .i64 x.n, v]
def insG (x : Ins) (v : Value) (l : List Value) : List Value := .int .u8 x.kind :: .int .u8 x.op :: .int .i64 x.d :: .int .i64 x.a :: .int .i64 x.b :: .int .i64 x.n :: v :: l
def endC (e : Fin4) : List Value := [.int .u8 e.kind, .int .i64 e.a, .int .i64 e.to, .int .i64 e.el]
def InsC (h : H) (cs : List Value) (x : Ins) : Prop := ∃ v, cs = insC x v ∧ IntsAt h v x.args
def BlkC (h : H) (cs : List Value) (b : Blk) : Prop := ∃ v, cs = v :: endC b.en ∧ SlAt 7 InsC h v b.ins
theorem insC_mono : Mono InsC := fun _ _ _ _ hl ⟨v, h1, h2⟩ => ⟨v, h1, h2.le hl⟩
theorem blkC_mono : Mono BlkC := fun _ _ _ _ hl ⟨v, h1, h2⟩ => ⟨v, h1, SlAt.le insC_mono hl h2⟩

def usesM (x : Ins) : List Int := if x.kind = 2 ∨ x.kind = 4 ∨ x.kind = 7 then [x.a] else if x.kind = 3 ∨ x.kind = 5 then [x.a, x.b] else if x.kind = 6 then x.args else []
def givesM (k : Int) : Bool := decide (k = 1 ∨ k = 2 ∨ k = 3 ∨ k = 4 ∨ k = 6 ∨ k = 8)
def lastM (e : Fin4) : Bool := decide (e.kind = 2 ∨ e.kind = 3)
theorem insFit (x : Ins) (v : Value) (hv : Fits .sl v) : FitsL [.int .u8, .int .u8, .int .i64, .int .i64, .int .i64, .int .i64, .sl] (insC x v) :=
  ⟨⟨_, rfl⟩, ⟨_, rfl⟩, ⟨_, rfl⟩, ⟨_, rfl⟩, ⟨_, rfl⟩, ⟨_, rfl⟩, hv, trivial⟩
theorem insGFit (x : Ins) (v : Value) (hv : Fits .sl v) {s : List Sh} {l : List Value} (h : FitsL s l) : FitsL (.int .u8 :: .int .u8 :: .int .i64 :: .int .i64 :: .int .i64 :: .int .i64 :: .sl :: s) (insG x v l) :=
  ⟨⟨_, rfl⟩, ⟨_, rfl⟩, ⟨_, rfl⟩, ⟨_, rfl⟩, ⟨_, rfl⟩, ⟨_, rfl⟩, hv, h⟩
theorem endFit (e : Fin4) : FitsL [.int .u8, .int .i64, .int .i64, .int .i64] (endC e) := ⟨⟨_, rfl⟩, ⟨_, rfl⟩, ⟨_, rfl⟩, ⟨_, rfl⟩, trivial⟩

theorem s74 {h : H} (x : Ins) (v : Value) (hv : Fits .sl v) :
    CallsA Try.prog 74 (fun _ => [.agg (insC x v).toArray]) [] h (Ret fun r h' => h' = h ∧ r = .tuple #[.int .i64 (if givesM x.kind then x.d else 0), .bool (givesM x.kind)]) := by
  refine c74 (G := insC x v) (insFit x v hv) ?_
  unfold t74
  simp only [holds, X.den, SV.den, SV.denL, insC, gv_zero, gv_succ, vi_int, vb_bool, vb_ite, cmp_eql, List.map_nil, Ret, true_and, decide_eq_true_eq]
  constructor
  · intro hc
    have : givesM x.kind = true := by unfold givesM; simp; grind (splits := 40)
    simp [this]
  · intro hc
    have : givesM x.kind = false := by unfold givesM; simp; grind (splits := 40)
    simp [this]
theorem s75 {h : H} (e : Fin4) :
    CallsA Try.prog 75 (fun _ => [.agg (endC e).toArray]) [] h (Ret fun r h' => h' = h ∧ r = .tuple #[.int .i64 e.a, .bool (lastM e)]) := by
  refine c75 (G := endC e) (endFit e) ?_
  unfold t75
  simp only [holds, X.den, SV.den, SV.denL, endC, gv_zero, gv_succ, vi_int, vb_bool, vb_ite, cmp_eql, List.map_nil, Ret, true_and, decide_eq_true_eq, lastM]
  congr 2
  grind
theorem s79 {h : H} (k : Int) : CallsA Try.prog 79 (fun _ => [.int .u8 k]) [] h (Ret fun r h' => h' = h ∧ r = .bool (givesM k)) := by
  refine c79 (G := [.int .u8 k]) ⟨⟨_, rfl⟩, trivial⟩ ?_
  unfold t79
  simp only [holds, X.den, SV.den, SV.denL, gv_zero, gv_succ, vi_int, vb_bool, vb_ite, cmp_eql, List.map_nil, Ret, true_and, decide_eq_true_eq, givesM]
  congr 1
  grind
theorem s61 {h : H} (e : Fin4) : CallsA Try.prog 61 (fun _ => [.agg (endC e).toArray]) [] h (Ret fun r h' => h' = h ∧ r = .bool (lastM e)) := by
  refine c61 (G := endC e) (endFit e) ?_
  unfold t61
  simp only [holds, X.den, SV.den, SV.denL, endC, gv_zero, gv_succ, vi_int, vb_bool, vb_ite, cmp_eql, List.map_nil, Ret, true_and, decide_eq_true_eq, lastM]
  congr 1
  grind
def plainM (x : Ins) : Prop := (x.op = 0 ∨ x.kind = 3) ∧ (x.d = 0 ∨ x.kind = 1 ∨ x.kind = 2 ∨ x.kind = 3 ∨ x.kind = 4 ∨ x.kind = 6) ∧ (x.a = 0 ∨ x.kind = 2 ∨ x.kind = 4 ∨ x.kind = 3 ∨ x.kind = 5) ∧
  (x.b = 0 ∨ x.kind = 3 ∨ x.kind = 5) ∧ (x.n = 0 ∨ x.kind = 1 ∨ x.kind = 6) ∧ (x.args = [] ∨ x.kind = 6)
instance (x : Ins) : Decidable (plainM x) := by unfold plainM; infer_instance
theorem len_zero {l : List Int} {v : Value} (h : vlen v = l.length) : ((vlen v : Nat) : Int) = 0 ↔ l = [] := by
  rw [h]; cases l <;> simp <;> omega
theorem s72 {h : H} (x : Ins) (v : Value) (hv : Fits .sl v) (hl : vlen v = x.args.length) :
    CallsA Try.prog 72 (fun _ => [.agg (insC x v).toArray]) [] h (Ret fun r h' => h' = h ∧ r = .bool (decide (plainM x))) := by
  refine c72 (G := insC x v) (insFit x v hv) ?_
  unfold t72
  have hz := len_zero hl
  simp only [holds, X.den, PE.den, SV.den, SV.denL, NK.val, NK.sv, NK.pub, gv_zero, gv_succ, vi_int, vb_bool, vlen_sl, vaddr_ptr, vb_ite, vi_ite, cmp_eql, cmp_neq, cmp_lss, cmp_leq, cmp_gtr, cmp_geq, List.map_nil, List.map_cons, List.cons_append, List.nil_append, List.flatten_nil, needs, Ret, true_and, and_true, decide_eq_true_eq, forall_const, intOp, insC, Value.bool.injEq, hz, plainM]
  grind (splits := 60)
theorem zero3 : (zeroCells Try.prog 3).getD [] = [.int .i64 0] := by kernel_rfl
theorem s73 {h : H} (x : Ins) (v : Value) (hv : IntsAt h v x.args) (hl : x.args.length ≤ 10000) :
    CallsA Try.prog 73 (fun _ => [.agg (insC x v).toArray]) [] h (Ret fun r h' => h.le h' ∧ OwnInts h h' r (usesM x)) := by
  refine c73 (G := insC x v) (insFit x v hv.fit) ?_
  refine h_ite (fun hc => fun b hb => ⟨rfl, H.le_put hb, ?_⟩) (fun hc => h_ite (fun hc2 => fun b hb => ⟨rfl, H.le_put hb, ?_⟩) (fun hc2 => h_ite (fun hc3 => fun b hb => ?_) (fun hc3 => ⟨rfl, H.le_refl _, ?_⟩)))
  · simp only [holds, X.den, PE.den, SV.den, SV.denL, NK.val, NK.sv, NK.pub, gv_zero, gv_succ, vi_int, vb_bool, vlen_sl, vaddr_ptr, vb_ite, vi_ite, cmp_eql, cmp_neq, cmp_lss, cmp_leq, cmp_gtr, cmp_geq, List.map_nil, List.map_cons, List.cons_append, List.nil_append, List.flatten_nil, needs, Ret, true_and, and_true, decide_eq_true_eq, forall_const, intOp, insC] at hc
    have hu : usesM x = [x.a] := by unfold usesM; grind
    rw [hu]
    exact own_new (l := [x.a]) hb
  · simp only [holds, X.den, PE.den, SV.den, SV.denL, NK.val, NK.sv, NK.pub, gv_zero, gv_succ, vi_int, vb_bool, vlen_sl, vaddr_ptr, vb_ite, vi_ite, cmp_eql, cmp_neq, cmp_lss, cmp_leq, cmp_gtr, cmp_geq, List.map_nil, List.map_cons, List.cons_append, List.nil_append, List.flatten_nil, needs, Ret, true_and, and_true, decide_eq_true_eq, forall_const, intOp, insC] at hc hc2
    have hu : usesM x = [x.a, x.b] := by unfold usesM; grind
    rw [hu]
    exact own_new (l := [x.a, x.b]) hb
  · simp only [holds, X.den, PE.den, SV.den, SV.denL, NK.val, NK.sv, NK.pub, gv_zero, gv_succ, vi_int, vb_bool, vlen_sl, vaddr_ptr, vb_ite, vi_ite, cmp_eql, cmp_neq, cmp_lss, cmp_leq, cmp_gtr, cmp_geq, List.map_nil, List.map_cons, List.cons_append, List.nil_append, List.flatten_nil, needs, Ret, true_and, and_true, decide_eq_true_eq, forall_const, intOp, insC] at hc hc2 hc3
    have hu : usesM x = x.args := by unfold usesM; grind
    rw [hu]
    refine ⟨x.args.map (.int .i64), x.args.length, ⟨by simp, by simp [Value.oneCell'], (hv.le (H.le_put hb)).src⟩, ?_⟩
    refine app_row (h0 := h) (cs := []) (own_new (l := []) hb) (H.le_put hb) (by simp) (by rw [zero3]; rfl) ?_ ?_
    · show (0 + x.args.length) * 8 ≤ _; omega
    · intro v' h' h1 h2 h3 h4 h5
      exact ⟨rfl, h3, h1⟩
  · simp only [holds, X.den, PE.den, SV.den, SV.denL, NK.val, NK.sv, NK.pub, gv_zero, gv_succ, vi_int, vb_bool, vlen_sl, vaddr_ptr, vb_ite, vi_ite, cmp_eql, cmp_neq, cmp_lss, cmp_leq, cmp_gtr, cmp_geq, List.map_nil, List.map_cons, List.cons_append, List.nil_append, List.flatten_nil, needs, Ret, true_and, and_true, decide_eq_true_eq, forall_const, intOp, insC] at hc hc2 hc3
    have hu : usesM x = [] := by unfold usesM; grind
    rw [hu]
    exact .inl ⟨rfl, rfl⟩
def inR (n v : Int) : Bool := decide (0 ≤ v ∧ v < n)
def namedM (x : Ins) : List Int := usesM x ++ (if givesM x.kind then [x.d] else [])
def ofM (x : Ins) (n : Int) : Int :=
  if ¬ (1 ≤ x.kind ∧ x.kind ≤ 6) ∨ (x.kind = 3 ∧ ¬ (1 ≤ x.op ∧ x.op ≤ 7)) ∨ ¬ plainM x then 20
  else if 3 < x.args.length then 25 else if (namedM x).all (inR n) then 0 else 21
theorem usesM_len {x : Ins} (h : x.args.length ≤ 10000) : (usesM x).length ≤ 10000 := by unfold usesM; split <;> (try split) <;> (try split) <;> simp_all
theorem ofM_20 {x : Ins} {n : Int} (h : ¬ (1 ≤ x.kind ∧ x.kind ≤ 6) ∨ (x.kind = 3 ∧ ¬ (1 ≤ x.op ∧ x.op ≤ 7)) ∨ ¬ plainM x) : ofM x n = 20 := by unfold ofM; rw [if_pos h]
/-- The loop that looks at each named number. -/
theorem of_loop {R : Value → List (List Value) → H → Prop} {G : List Value} {L : Lv} {h : H} {v : Value} {l : List Int} {n : Int} {j k : Nat} (hv : IntsAt h v l) (hj : gv G j = v) (hjk : j < k) (h7 : 7 < k) (hk : G.length = k)
    (hn : gv G 7 = .int .i64 n) (hl : l.length ≤ 100000) (H21 : l.all (inR n) = false → R (Value.int .i64 21) [] h) (H0 : l.all (inR n) = true → R (Value.int .i64 0) [] h) :
    holds Try.prog R (.loop 0 [(.int .i64 (.lit 0))] [.int .i64] (.ite (.cmp .lss (.var k) (.len j)) (.need (.tt true) [(.cmp .geq (.var k) (.lit 0)), (.cmp .lss (.var k) (.len j))]
       (.load (.tt true) (.idx (.var j) (.var k) 1) [.int .i64]
       (.ite (.ite (.cmp .lss (.var (k + 1)) (.lit 0)) (.tt true) (.cmp .geq (.var (k + 1)) (.var 7)))
        (.done (.int .i64 (.lit 21)) [])
        (.again 0 [(.int .i64 (.op .add .i64 (.var k) (.lit 1)))]))))
       (.done (.int .i64 (.lit 0)) []))) G L h := by
  refine h_range (n := l.length) (fun i h' => h' = h ∧ ∀ m, m < i → ∀ y, l[m]? = some y → inR n y = true) (by rw [hj]; exact hv.len) hjk hk (by omega) ⟨rfl, fun m hm => absurd hm (Nat.not_lt_zero _)⟩ ?_ ?_
  · rintro i h' J hi ⟨rfl, hI⟩ hJ
    have hy : l[i]? = some l[i] := List.getElem?_eq_getElem hi
    generalize l[i] = y at hy
    have e1 : gv (G ++ [.int .i64 (i : Int)]) k = .int .i64 (i : Int) := by rw [← hk]; exact gv_last
    have e2 : gv (G ++ [.int .i64 (i : Int)]) j = v := by rw [gv_of_lt (by omega), hj]
    refine h_load [.int .i64 y] ⟨⟨_, rfl⟩, trivial⟩ (fun _ => ?_) ?_
    · simp only [PE.den, X.den, e1, e2, vi_int, Int.toNat_natCast]
      exact hv.read hy
    · have e3 : gv (G ++ [.int .i64 (i : Int)] ++ [.int .i64 y]) (k + 1) = .int .i64 y := by
        have : (G ++ [Value.int .i64 (i : Int)]).length = k + 1 := by simp [hk]
        rw [← this]; exact gv_last
      have e4 : gv (G ++ [.int .i64 (i : Int)] ++ [.int .i64 y]) 7 = .int .i64 n := by rw [gv_of_lt (by simp; omega), gv_of_lt (by omega), hn]
      have e5 : gv (G ++ [.int .i64 (i : Int)] ++ [.int .i64 y]) k = .int .i64 (i : Int) := by rw [gv_of_lt (by simp; omega), e1]
      refine h_ite (fun hc => ?_) (fun hc => ?_)
      · refine H21 ?_
        simp only [X.den, e3, e4, vb_ite, vb_bool, vi_int, cmp_lss, cmp_geq, decide_eq_true_eq] at hc
        rw [List.all_eq_false]
        refine ⟨y, List.mem_of_getElem? hy, ?_⟩
        unfold inR; grind
      · show J _ _
        simp only [SV.denL, SV.den, X.den, e5, vi_int]
        refine hJ _ ⟨rfl, fun m hm z hz => ?_⟩
        rcases Nat.lt_succ_iff_lt_or_eq.1 hm with h | rfl
        · exact hI m h z hz
        · rw [hy] at hz; cases hz
          simp only [X.den, e3, e4, vb_ite, vb_bool, vi_int, cmp_lss, cmp_geq, decide_eq_true_eq] at hc
          unfold inR; grind
  · rintro h' J ⟨rfl, hI⟩
    refine H0 ?_
    rw [List.all_eq_true]
    intro y hy
    obtain ⟨m, hm⟩ := List.getElem?_of_mem hy
    exact hI m (List.getElem?_eq_some_iff.1 hm).1 y hm
theorem s53 {h : H} (x : Ins) (v : Value) (n : Int) (hv : IntsAt h v x.args) :
    CallsA Try.prog 53 (fun _ => [.agg (insC x v).toArray, .int .i64 n]) [] h (Ret fun r h' => h.le h' ∧ r = .int .i64 (ofM x n)) := by
  refine c53 (G := insG x v [.int .i64 n]) (insGFit x v hv.fit ⟨⟨_, rfl⟩, trivial⟩) ?_
  have hl := hv.len
  refine h_ite (fun hc => ?_) (fun hc => ⟨rfl, H.le_refl _, ?_⟩)
  rotate_left
  · simp only [holds, X.den, PE.den, SV.den, SV.denL, NK.val, NK.sv, NK.pub, gv_zero, gv_succ, vi_int, vb_bool, vlen_sl, vaddr_ptr, vb_ite, vi_ite, cmp_eql, cmp_neq, cmp_lss, cmp_leq, cmp_gtr, cmp_geq, List.map_nil, List.map_cons, List.cons_append, List.nil_append, List.flatten_nil, needs, Ret, true_and, and_true, decide_eq_true_eq, forall_const, intOp, insG] at hc ⊢
    rw [ofM_20 (by grind)]
  refine h_call0 (s72 x v hv.fit hv.len) ?_
  rintro r hh ⟨rfl, rfl⟩
  refine ⟨[.bool (decide (plainM x))], ⟨⟨_, rfl⟩, trivial⟩, rfl, h_ite (fun hp => ⟨rfl, H.le_refl _, ?_⟩) (fun hp => h_ite (fun ha => ⟨rfl, H.le_refl _, ?_⟩) (fun ha => ?_))⟩
  · simp only [holds, X.den, PE.den, SV.den, SV.denL, NK.val, NK.sv, NK.pub, gv_zero, gv_succ, vi_int, vb_bool, vlen_sl, vaddr_ptr, vb_ite, vi_ite, cmp_eql, cmp_neq, cmp_lss, cmp_leq, cmp_gtr, cmp_geq, List.map_nil, List.map_cons, List.cons_append, List.nil_append, List.flatten_nil, needs, Ret, true_and, and_true, decide_eq_true_eq, forall_const, intOp, insG] at hp ⊢
    rw [ofM_20 (by grind)]
  · simp only [holds, X.den, PE.den, SV.den, SV.denL, NK.val, NK.sv, NK.pub, gv_zero, gv_succ, vi_int, vb_bool, vlen_sl, vaddr_ptr, vb_ite, vi_ite, cmp_eql, cmp_neq, cmp_lss, cmp_leq, cmp_gtr, cmp_geq, List.map_nil, List.map_cons, List.cons_append, List.nil_append, List.flatten_nil, needs, Ret, true_and, and_true, decide_eq_true_eq, forall_const, intOp, insG] at hp hc ha ⊢
    rw [hl] at ha
    unfold ofM
    rw [if_neg (by grind), if_pos (by omega)]
  · simp only [holds, X.den, PE.den, SV.den, SV.denL, NK.val, NK.sv, NK.pub, gv_zero, gv_succ, vi_int, vb_bool, vlen_sl, vaddr_ptr, vb_ite, vi_ite, cmp_eql, cmp_neq, cmp_lss, cmp_leq, cmp_gtr, cmp_geq, List.map_nil, List.map_cons, List.cons_append, List.nil_append, List.flatten_nil, needs, Ret, true_and, and_true, decide_eq_true_eq, forall_const, intOp, insG] at hp hc ha
    rw [hl] at ha
    simp only [decide_eq_false_iff_not, Int.not_lt] at ha
    have hof : ofM x n = if (namedM x).all (inR n) then 0 else 21 := by unfold ofM; rw [if_neg (by grind), if_neg (by omega)]
    have hul := usesM_len (x := x) (by omega)
    refine h_call0 (s73 x v hv (by omega)) ?_
    rintro u h1 ⟨hl1, hu⟩
    have hui := hu.ints
    refine ⟨[u], ⟨hui.fit, trivial⟩, rfl, h_call0 (s74 x v hv.fit) ?_⟩
    rintro _ _ ⟨rfl, rfl⟩
    refine ⟨[.int .i64 (if givesM x.kind then x.d else 0), .bool (givesM x.kind)], ⟨⟨_, rfl⟩, ⟨_, rfl⟩, trivial⟩, rfl, h_ite (fun hg => ?_) (fun hg => ?_)⟩
    · have hg' : givesM x.kind = true := hg
      have hN : namedM x = usesM x ++ [x.d] := by unfold namedM; rw [if_pos hg']
      rw [hN] at hof
      refine ⟨[.int .i64 x.d], 1, ⟨?_, rfl⟩, app_row hu hl1 rfl (by rw [zero3]; rfl) ?_ ?_⟩
      · simp only [holds, X.den, PE.den, SV.den, SV.denL, NK.val, NK.sv, NK.pub, gv_zero, gv_succ, vi_int, vb_bool, vlen_sl, vaddr_ptr, vb_ite, vi_ite, cmp_eql, cmp_neq, cmp_lss, cmp_leq, cmp_gtr, cmp_geq, List.map_nil, List.map_cons, List.cons_append, List.nil_append, List.flatten_nil, needs, Ret, true_and, and_true, decide_eq_true_eq, forall_const, intOp, insG, if_pos hg']
      · have := hui.len; show (vlen u + 1) * 8 ≤ _; omega
      · intro v' h' k1 k2 k3 k4 k5
        have k1' : OwnInts hh h' v' (usesM x ++ [x.d]) := by unfold OwnInts; rw [List.map_append]; exact k1
        refine of_loop (v := v') (l := usesM x ++ [x.d]) (n := n) k1'.ints rfl (by omega) (by omega) rfl rfl (by simp; omega) (fun e => ⟨rfl, k3, ?_⟩) (fun e => ⟨rfl, k3, ?_⟩)
        · rw [hof, e]; rfl
        · rw [hof, e]; rfl
    · have hg' : givesM x.kind = false := hg
      have hN : namedM x = usesM x := by unfold namedM; rw [hg']; simp
      rw [hN] at hof
      refine of_loop (v := u) (l := usesM x) (n := n) hui rfl (by omega) (by omega) rfl rfl (by omega) (fun e => ⟨rfl, hl1, ?_⟩) (fun e => ⟨rfl, hl1, ?_⟩)
      · rw [hof, e]; rfl
      · rw [hof, e]; rfl
def endM (e : Fin4) (n m : Int) (vreg : Int) : Int :=
  if e.kind < 1 ∨ 3 < e.kind ∨ (e.kind = 1 ∧ e.a ≠ 0) ∨ (e.kind = 3 ∧ e.to ≠ 0) ∨ (e.kind ≠ 2 ∧ e.el ≠ 0) then 20
  else if e.kind ≠ 1 ∧ ¬ (0 ≤ e.a ∧ e.a < n) then vreg
  else if (e.kind ≠ 3 ∧ ¬ (0 ≤ e.to ∧ e.to < m)) ∨ (e.kind = 2 ∧ ¬ (0 ≤ e.el ∧ e.el < m)) then 22 else 0
theorem s54 {h : H} (e : Fin4) (n m : Int) : CallsA Try.prog 54 (fun _ => [.agg (endC e).toArray, .int .i64 n, .int .i64 m]) [] h (Ret fun r h' => h' = h ∧ r = .int .i64 (endM e n m 21)) := by
  refine c54 (G := [.int .u8 e.kind, .int .i64 e.a, .int .i64 e.to, .int .i64 e.el, .int .i64 n, .int .i64 m]) ⟨⟨_, rfl⟩, ⟨_, rfl⟩, ⟨_, rfl⟩, ⟨_, rfl⟩, ⟨_, rfl⟩, ⟨_, rfl⟩, trivial⟩ ?_
  refine h_call0 (s75 e) ?_
  rintro r hh ⟨rfl, rfl⟩
  refine ⟨[.int .i64 e.a, .bool (lastM e)], ⟨⟨_, rfl⟩, ⟨_, rfl⟩, trivial⟩, rfl, ?_⟩
  simp only [holds, X.den, PE.den, SV.den, SV.denL, NK.val, NK.sv, NK.pub, gv_zero, gv_succ, vi_int, vb_bool, vlen_sl, vaddr_ptr, vb_ite, vi_ite, cmp_eql, cmp_neq, cmp_lss, cmp_leq, cmp_gtr, cmp_geq, List.map_nil, List.map_cons, List.cons_append, List.nil_append, List.flatten_nil, needs, Ret, true_and, and_true, decide_eq_true_eq, forall_const, intOp, lastM, Value.int.injEq]
  unfold endM
  grind (splits := 60)
theorem s58 {h : H} (e : Fin4) (n m r0 : Int) : CallsA Try.prog 58 (fun _ => [.agg (endC e).toArray, .int .i64 n, .int .i64 m, .int .i64 r0]) [] h (Ret fun r h' => h' = h ∧ r = .int .i64 (endM e n m r0)) := by
  refine c58 (G := [.int .u8 e.kind, .int .i64 e.a, .int .i64 e.to, .int .i64 e.el, .int .i64 n, .int .i64 m, .int .i64 r0]) ⟨⟨_, rfl⟩, ⟨_, rfl⟩, ⟨_, rfl⟩, ⟨_, rfl⟩, ⟨_, rfl⟩, ⟨_, rfl⟩, ⟨_, rfl⟩, trivial⟩ ?_
  refine h_ite (fun h1 => ?_) (fun h1 => h_ite (fun h2 => ?_) (fun h2 => h_ite (fun h3 => ?_) (fun h3 => ?_)))
  · simp only [holds, X.den, PE.den, SV.den, SV.denL, NK.val, NK.sv, NK.pub, gv_zero, gv_succ, vi_int, vb_bool, vlen_sl, vaddr_ptr, vb_ite, vi_ite, cmp_eql, cmp_neq, cmp_lss, cmp_leq, cmp_gtr, cmp_geq, List.map_nil, List.map_cons, List.cons_append, List.nil_append, List.flatten_nil, needs, Ret, true_and, and_true, decide_eq_true_eq, forall_const, intOp, Value.int.injEq] at h1 ⊢
    unfold endM; grind (splits := 60)
  · simp only [holds, X.den, PE.den, SV.den, SV.denL, NK.val, NK.sv, NK.pub, gv_zero, gv_succ, vi_int, vb_bool, vlen_sl, vaddr_ptr, vb_ite, vi_ite, cmp_eql, cmp_neq, cmp_lss, cmp_leq, cmp_gtr, cmp_geq, List.map_nil, List.map_cons, List.cons_append, List.nil_append, List.flatten_nil, needs, Ret, true_and, and_true, decide_eq_true_eq, forall_const, intOp, Value.int.injEq] at h1 h2 ⊢
    unfold endM; grind (splits := 60)
  · simp only [holds, X.den, PE.den, SV.den, SV.denL, NK.val, NK.sv, NK.pub, gv_zero, gv_succ, vi_int, vb_bool, vlen_sl, vaddr_ptr, vb_ite, vi_ite, cmp_eql, cmp_neq, cmp_lss, cmp_leq, cmp_gtr, cmp_geq, List.map_nil, List.map_cons, List.cons_append, List.nil_append, List.flatten_nil, needs, Ret, true_and, and_true, decide_eq_true_eq, forall_const, intOp, Value.int.injEq] at h1 h2 h3 ⊢
    unfold endM; grind (splits := 60)
  · refine h_call0 (s61 e) ?_
    rintro r hh ⟨rfl, rfl⟩
    refine ⟨[.bool (lastM e)], ⟨⟨_, rfl⟩, trivial⟩, rfl, ?_⟩
    simp only [holds, X.den, PE.den, SV.den, SV.denL, NK.val, NK.sv, NK.pub, gv_zero, gv_succ, vi_int, vb_bool, vlen_sl, vaddr_ptr, vb_ite, vi_ite, cmp_eql, cmp_neq, cmp_lss, cmp_leq, cmp_gtr, cmp_geq, List.map_nil, List.map_cons, List.cons_append, List.nil_append, List.flatten_nil, needs, Ret, true_and, and_true, decide_eq_true_eq, forall_const, intOp, lastM, Value.int.injEq] at h1 h2 h3 ⊢
    unfold endM
    grind (splits := 60)
end Go.Proofs.Ythnoplfjcdkacaa

/-
  What a function's check computes, and the fixed facts. Conditions: as each contract says.
-/
set_option linter.unusedVariables false
set_option linter.unusedSimpArgs false
namespace Go.Proofs.Ythnoplfjcdkacaa
open Go

def insF (f : Ins → Int) : Nat → List Ins → Option (Nat × Int)
  | _, [] => none
  | k, x :: l => if f x ≠ 0 then some (k, f x) else insF f (k + 1) l
def blkF (f : Ins → Int) (g : Fin4 → Int) (most : Nat) : Nat → List Blk → Int × Int × Int
  | _, [] => (0, 0, 0)
  | b, x :: l => if most < x.ins.length then (9, b, -1) else match insF f 0 x.ins with
    | some (k, e) => (e, b, k)
    | none => if g x.en ≠ 0 then (g x.en, b, x.ins.length) else blkF f g most (b + 1) l
def checkM (p n : Int) (bs : List Blk) : Int × Int × Int :=
  if p < 0 ∨ 4 < p ∨ n < p ∨ 32 < n ∨ bs.length < 1 ∨ 16 < bs.length then (2, -1, -1)
  else blkF (fun x => ofM x n) (fun e => endM e n bs.length 21) 32 0 bs
def faultV (f : Int × Int × Int) : Value := .agg #[.int .i64 f.1, .int .i64 f.2.1, .int .i64 f.2.2]
theorem insF_step {f : Ins → Int} {l : List Ins} {k : Nat} {x : Ins} (hx : l[k]? = some x) (h : insF f 0 l = insF f k (l.drop k)) :
    insF f 0 l = if f x ≠ 0 then some (k, f x) else insF f (k + 1) (l.drop (k + 1)) := by
  rw [h]
  obtain ⟨hk, rfl⟩ := List.getElem?_eq_some_iff.1 hx
  rw [List.drop_eq_getElem_cons hk]; rfl
theorem blkF_step {f : Ins → Int} {g : Fin4 → Int} {most : Nat} {l : List Blk} {k : Nat} {x : Blk} (hx : l[k]? = some x) (h : blkF f g most 0 l = blkF f g most k (l.drop k)) :
    blkF f g most 0 l = (if most < x.ins.length then (9, (k : Int), (-1 : Int)) else match insF f 0 x.ins with
    | some (j, e) => (e, (k : Int), (j : Int))
    | none => if g x.en ≠ 0 then (g x.en, (k : Int), (x.ins.length : Int)) else blkF f g most (k + 1) (l.drop (k + 1))) := by
  rw [h]
  obtain ⟨hk, rfl⟩ := List.getElem?_eq_some_iff.1 hx
  rw [List.drop_eq_getElem_cons hk]; rfl
abbrev BlksAt := SlAt 5 BlkC
theorem gv_at {G D : List Value} {i j : Nat} (h : G.length + j = i) : gv (G ++ D) i = gv D j := by
  subst h
  simp [gv, List.getD_eq_getElem?_getD, List.getElem?_append_right]
theorem s35 {h : H} (p n : Int) (v : Value) (bs : List Blk) (hv : BlksAt h v bs) :
    CallsA Try.prog 35 (fun _ => [.agg #[.int .i64 p, .int .i64 n, v]]) [] h (Ret fun r h' => h.le h' ∧ r = faultV (checkM p n bs)) := by
  refine c35 (G := [.int .i64 p, .int .i64 n, v]) ⟨⟨_, rfl⟩, ⟨_, rfl⟩, hv.fit, trivial⟩ ?_
  have hl := hv.len
  refine h_ite (fun hc => ⟨rfl, H.le_refl _, ?_⟩) (fun hc => ?_)
  · simp only [holds, X.den, PE.den, SV.den, SV.denL, NK.val, NK.sv, NK.pub, gv_zero, gv_succ, vi_int, vb_bool, vlen_sl, vaddr_ptr, vb_ite, vi_ite, cmp_eql, cmp_neq, cmp_lss, cmp_leq, cmp_gtr, cmp_geq, List.map_nil, List.map_cons, List.cons_append, List.nil_append, List.flatten_nil, needs, Ret, true_and, and_true, decide_eq_true_eq, forall_const, intOp, X.den] at hc ⊢
    rw [hl] at hc
    unfold checkM
    rw [if_pos (by grind)]; rfl
  · simp only [holds, X.den, PE.den, SV.den, SV.denL, NK.val, NK.sv, NK.pub, gv_zero, gv_succ, vi_int, vb_bool, vlen_sl, vaddr_ptr, vb_ite, vi_ite, cmp_eql, cmp_neq, cmp_lss, cmp_leq, cmp_gtr, cmp_geq, List.map_nil, List.map_cons, List.cons_append, List.nil_append, List.flatten_nil, needs, Ret, true_and, and_true, decide_eq_true_eq, forall_const, intOp, X.den] at hc
    rw [hl] at hc
    have hcm : checkM p n bs = blkF (fun x => ofM x n) (fun e => endM e n bs.length 21) 32 0 bs := by unfold checkM; rw [if_neg (by grind)]
    have hb16 : bs.length ≤ 16 := by grind
    clear hc
    refine h_range (n := bs.length) (fun i h' => h.le h' ∧ blkF (fun x => ofM x n) (fun e => endM e n bs.length 21) 32 0 bs = blkF (fun x => ofM x n) (fun e => endM e n bs.length 21) 32 i (bs.drop i)) hl (by omega) rfl (by omega)
      ⟨H.le_refl _, rfl⟩ ?_ ?_
    · rintro i h1 J hi ⟨hl1, hI⟩ hJ
      have hy : bs[i]? = some bs[i] := List.getElem?_eq_getElem hi
      generalize bs[i] = y at hy
      have hst := blkF_step hy hI
      obtain ⟨cs, ⟨u, rfl, hu⟩, hr⟩ := (SlAt.le blkC_mono hl1 hv).get i y hy
      refine h_load (u :: endC y.en) ⟨hu.fit, endFit y.en⟩ (fun _ => hr) ?_
      have hul := hu.len
      refine h_ite (fun hc => ⟨rfl, hl1, ?_⟩) (fun hc => ?_)
      · replace hc : decide (((32 : Int)) < (vlen u : Nat)) = true := hc
        simp only [decide_eq_true_eq] at hc
        rw [hul] at hc
        rw [if_pos (by omega)] at hst
        rw [hcm, hst]; rfl
      · replace hc : decide (((32 : Int)) < (vlen u : Nat)) = false := hc
        simp only [decide_eq_false_iff_not] at hc
        rw [hul] at hc
        rw [if_neg (by omega)] at hst
        refine h_range (n := y.ins.length) (fun k h' => h1.le h' ∧ insF (fun x => ofM x n) 0 y.ins = insF (fun x => ofM x n) k (y.ins.drop k)) hul (by omega) rfl (by omega) ⟨H.le_refl _, rfl⟩ ?_ ?_
        · rintro k h2 J2 hk ⟨hl2, hI2⟩ hJ2
          have hz : y.ins[k]? = some y.ins[k] := List.getElem?_eq_getElem hk
          generalize y.ins[k] = z at hz
          have hst2 := insF_step hz hI2
          obtain ⟨cs2, ⟨w, rfl, hw⟩, hr2⟩ := (SlAt.le insC_mono hl2 hu).get k z hz
          refine h_load (insC z w) (insFit z w hw.fit) (fun _ => hr2) (h_call0 (s53 z w n hw) ?_)
          rintro r h3 ⟨hl3, rfl⟩
          refine ⟨[.int .i64 (ofM z n)], ⟨⟨_, rfl⟩, trivial⟩, rfl, h_ite (fun hf => ⟨rfl, (hl1.trans hl2).trans hl3, ?_⟩) (fun hf => ?_)⟩
          · replace hf : cmpOp .neq (ofM z n) 0 = true := hf
            rw [cmp_neq, decide_eq_true_eq] at hf
            rw [if_pos hf] at hst2
            rw [hst2] at hst
            rw [hcm, hst]; rfl
          · replace hf : cmpOp .neq (ofM z n) 0 = false := hf
            rw [cmp_neq, decide_eq_false_iff_not] at hf
            rw [if_neg hf] at hst2
            exact hJ2 _ ⟨hl2.trans hl3, hst2⟩
        · rintro h2 J2 ⟨hl2, hI2⟩
          rw [List.drop_eq_nil_of_le (Nat.le_refl _)] at hI2
          have hI3 : insF (fun x => ofM x n) 0 y.ins = none := hI2
          rw [hI3] at hst
          have hb : ((vlen v : Nat) : Int) = bs.length := by rw [hl]
          refine h_call0 (Q := fun r h' => h' = h2 ∧ r = .int .i64 (endM y.en n bs.length 21)) (by have := s54 (h := h2) y.en n (vlen v : Nat); rw [hb] at this; rw [← hb] at this ⊢; exact this) ?_
          rintro r _ ⟨rfl, rfl⟩
          refine ⟨[.int .i64 (endM y.en n bs.length 21)], ⟨⟨_, rfl⟩, trivial⟩, rfl, h_ite (fun hf => ⟨rfl, hl1.trans hl2, ?_⟩) (fun hf => ?_)⟩
          · replace hf : cmpOp .neq (endM y.en n bs.length 21) 0 = true := hf
            rw [cmp_neq, decide_eq_true_eq] at hf
            simp only [if_pos hf] at hst
            rw [hcm, hst, ← hul]; rfl
          · replace hf : cmpOp .neq (endM y.en n bs.length 21) 0 = false := hf
            rw [cmp_neq, decide_eq_false_iff_not] at hf
            simp only [if_neg hf] at hst
            exact hJ _ ⟨hl1.trans hl2, hst⟩
    · rintro h1 J ⟨hl1, hI⟩
      refine ⟨rfl, hl1, ?_⟩
      rw [hcm, hI, List.drop_eq_nil_of_le (Nat.le_refl _)]; rfl
def aIns : Ins := ⟨3, 1, 1, 0, 0, 0, []⟩
def aBlk : Blk := ⟨[aIns], ⟨3, 1, 0, 0⟩⟩
theorem get_one {α : Type} {a x : α} {i : Nat} (h : [a][i]? = some x) : i = 0 ∧ x = a := by
  cases i with
  | zero => simp at h; exact ⟨rfl, h.symm⟩
  | succ i => simp at h
end Go.Proofs.Ythnoplfjcdkacaa

/-
  What code's check computes, and the fixed facts of layer 5. Conditions: as each contract says.
-/
set_option linter.unusedVariables false
set_option linter.unusedSimpArgs false
namespace Go.Proofs.Ythnoplfjcdkacaa
open Go

def mapE (e : Int) : Int := if e = 21 then 23 else e
def mofM (x : Ins) (r s : Int) : Int :=
  if x.kind = 8 then (if x.op ≠ 0 ∨ x.b ≠ 0 ∨ x.n ≠ 0 ∨ x.args ≠ [] then 20 else if ¬ (0 ≤ x.d ∧ x.d < r) then 23 else if ¬ (0 ≤ x.a ∧ x.a < s) then 24 else 0)
  else if x.kind = 7 then (if x.op ≠ 0 ∨ x.b ≠ 0 ∨ x.n ≠ 0 ∨ x.args ≠ [] then 20 else if ¬ (0 ≤ x.a ∧ x.a < r) then 23 else if ¬ (0 ≤ x.d ∧ x.d < s) then 24 else 0)
  else mapE (checkM 0 r [⟨[x], ⟨1, 0, 0, 0⟩⟩]).1
theorem s64 {h : H} (e : Int) : CallsA Try.prog 64 (fun _ => [.int .i64 e]) [] h (Ret fun r h' => h' = h ∧ r = .int .i64 (mapE e)) := by
  refine c64 (G := [.int .i64 e]) ⟨⟨_, rfl⟩, trivial⟩ ?_
  refine h_ite (fun hc => ⟨rfl, rfl, ?_⟩) (fun hc => ⟨rfl, rfl, ?_⟩)
  · simp only [holds, X.den, PE.den, SV.den, SV.denL, NK.val, NK.sv, NK.pub, gv_zero, gv_succ, vi_int, vb_bool, vlen_sl, vaddr_ptr, vb_ite, vi_ite, cmp_eql, cmp_neq, cmp_lss, cmp_leq, cmp_gtr, cmp_geq, List.map_nil, List.map_cons, List.cons_append, List.nil_append, List.flatten_nil, needs, Ret, true_and, and_true, decide_eq_true_eq, forall_const, intOp] at hc ⊢
    unfold mapE; rw [if_pos hc]
  · simp only [holds, X.den, PE.den, SV.den, SV.denL, NK.val, NK.sv, NK.pub, gv_zero, gv_succ, vi_int, vb_bool, vlen_sl, vaddr_ptr, vb_ite, vi_ite, cmp_eql, cmp_neq, cmp_lss, cmp_leq, cmp_gtr, cmp_geq, List.map_nil, List.map_cons, List.cons_append, List.nil_append, List.flatten_nil, needs, Ret, true_and, and_true, decide_eq_true_eq, forall_const, intOp, decide_eq_false_iff_not] at hc ⊢
    unfold mapE; rw [if_neg hc]
theorem len_pos {l : List Int} {v : Value} (h : vlen v = l.length) : (0 : Int) < ((vlen v : Nat) : Int) ↔ l ≠ [] := by
  rw [h]; cases l <;> simp <;> omega
/-- One block, in a row of its own. -/
theorem blk_one {h : H} {b0 b1 : Nat} {x : Ins} {v : Value} {e : Fin4} (hv : IntsAt h v x.args) (hb0 : h b0 = none) (hb1 : H.put h b0 (.cells (insC x v).toArray 87 (0, 0)) b1 = none) :
    BlksAt (H.put (H.put h b0 (.cells (insC x v).toArray 87 (0, 0))) b1 (.cells (Value.slice (some ⟨b0, 0, none⟩) 1 1 :: endC e).toArray 83 (0, 0))) (.slice (some ⟨b1, 0, none⟩) 1 1) [⟨[x], e⟩] := by
  have hl0 := H.le_put (o := .cells (insC x v).toArray 87 (0, 0)) hb0
  have hl1 := H.le_put (o := .cells (Value.slice (some ⟨b0, 0, none⟩) 1 1 :: endC e).toArray 83 (0, 0)) hb1
  have hI : SlAt 7 InsC (H.put h b0 (.cells (insC x v).toArray 87 (0, 0))) (.slice (some ⟨b0, 0, none⟩) 1 1) [x] := by
    refine ⟨⟨_, _, _, rfl, (fun e => by cases e), Nat.le_refl _⟩, rfl, fun i y hi => ?_⟩
    obtain ⟨rfl, rfl⟩ := get_one hi
    exact ⟨_, ⟨_, rfl, hv.le hl0⟩, Reads.put (o := 0) fun i v hi => by simpa using hi⟩
  refine ⟨⟨_, _, _, rfl, (fun e => by cases e), Nat.le_refl _⟩, rfl, fun i y hi => ?_⟩
  obtain ⟨rfl, rfl⟩ := get_one hi
  exact ⟨_, ⟨_, rfl, SlAt.le insC_mono hl1 hI⟩, Reads.put (o := 0) fun i v hi => by simpa using hi⟩
theorem s63 {h : H} (x : Ins) (v : Value) (p r s : Int) (u : Value) (hv : IntsAt h v x.args) (hu : Fits .sl u) :
    CallsA Try.prog 63 (fun _ => [.agg (insC x v).toArray, .agg #[.int .i64 p, .int .i64 r, .int .i64 s, u]]) [] h (Ret fun q h' => h.le h' ∧ q = .int .i64 (mofM x r s)) := by
  refine c63 (G := insG x v [.int .i64 p, .int .i64 r, .int .i64 s, u]) (insGFit x v hv.fit ⟨⟨_, rfl⟩, ⟨_, rfl⟩, ⟨_, rfl⟩, hu, trivial⟩) ?_
  have hz := len_pos hv.len
  refine h_ite (fun hc => ?_) (fun hc => ?_)
  · simp only [holds, X.den, PE.den, SV.den, SV.denL, NK.val, NK.sv, NK.pub, gv_zero, gv_succ, vi_int, vb_bool, vlen_sl, vaddr_ptr, vb_ite, vi_ite, cmp_eql, cmp_neq, cmp_lss, cmp_leq, cmp_gtr, cmp_geq, List.map_nil, List.map_cons, List.cons_append, List.nil_append, List.flatten_nil, needs, Ret, true_and, and_true, decide_eq_true_eq, forall_const, intOp, insG, hz, Value.int.injEq, H.le_refl] at hc ⊢
    unfold mofM
    grind (splits := 60)
  · intro b0 hb0 b1 hb1
    simp only [holds, X.den, PE.den, SV.den, SV.denL, NK.val, NK.sv, NK.pub, gv_zero, gv_succ, vi_int, vb_bool, vlen_sl, vaddr_ptr, vb_ite, vi_ite, cmp_eql, cmp_neq, cmp_lss, cmp_leq, cmp_gtr, cmp_geq, List.map_nil, List.map_cons, List.cons_append, List.nil_append, List.flatten_nil, needs, Ret, true_and, and_true, decide_eq_true_eq, forall_const, intOp, insG] at hc
    have hB := blk_one (e := ⟨1, 0, 0, 0⟩) hv hb0 hb1
    refine h_call0 (s35 0 r _ _ hB) ?_
    rintro q h1 ⟨hl, rfl⟩
    have hl' := ((H.le_put hb0).trans (H.le_put hb1)).trans hl
    generalize hf : checkM 0 r [⟨[x], ⟨1, 0, 0, 0⟩⟩] = f
    refine ⟨[.int .i64 f.1, .int .i64 f.2.1, .int .i64 f.2.2], ⟨⟨_, rfl⟩, ⟨_, rfl⟩, ⟨_, rfl⟩, trivial⟩, rfl, h_call0 (s64 f.1) ?_⟩
    rintro _ _ ⟨rfl, rfl⟩
    refine ⟨[.int .i64 (mapE f.1)], ⟨⟨_, rfl⟩, trivial⟩, rfl, rfl, hl', ?_⟩
    have : mofM x r s = mapE f.1 := by unfold mofM; rw [hf]; grind
    rw [this]; rfl
def mcheckM (p r s : Int) (bs : List Blk) : Int × Int × Int :=
  if p < 0 ∨ 4 < p ∨ r < 3 ∨ 8 < r ∨ s < p ∨ 64 < s ∨ bs.length < 1 ∨ 16 < bs.length then (2, -1, -1)
  else blkF (fun x => mofM x r s) (fun e => mapE (endM e r bs.length 21)) 400 0 bs
theorem s43 {h : H} (p r s : Int) (v : Value) (bs : List Blk) (hv : BlksAt h v bs) :
    CallsA Try.prog 43 (fun _ => [.agg #[.int .i64 p, .int .i64 r, .int .i64 s, v]]) [] h (Ret fun q h' => h.le h' ∧ q = faultV (mcheckM p r s bs)) := by
  refine c43 (G := [.int .i64 p, .int .i64 r, .int .i64 s, v]) ⟨⟨_, rfl⟩, ⟨_, rfl⟩, ⟨_, rfl⟩, hv.fit, trivial⟩ ?_
  have hl := hv.len
  refine h_ite (fun hc => ⟨rfl, H.le_refl _, ?_⟩) (fun hc => ?_)
  · simp only [holds, X.den, PE.den, SV.den, SV.denL, NK.val, NK.sv, NK.pub, gv_zero, gv_succ, vi_int, vb_bool, vlen_sl, vaddr_ptr, vb_ite, vi_ite, cmp_eql, cmp_neq, cmp_lss, cmp_leq, cmp_gtr, cmp_geq, List.map_nil, List.map_cons, List.cons_append, List.nil_append, List.flatten_nil, needs, Ret, true_and, and_true, decide_eq_true_eq, forall_const, intOp, X.den] at hc ⊢
    rw [hl] at hc
    unfold mcheckM
    rw [if_pos (by grind (splits := 60))]; rfl
  · simp only [holds, X.den, PE.den, SV.den, SV.denL, NK.val, NK.sv, NK.pub, gv_zero, gv_succ, vi_int, vb_bool, vlen_sl, vaddr_ptr, vb_ite, vi_ite, cmp_eql, cmp_neq, cmp_lss, cmp_leq, cmp_gtr, cmp_geq, List.map_nil, List.map_cons, List.cons_append, List.nil_append, List.flatten_nil, needs, Ret, true_and, and_true, decide_eq_true_eq, forall_const, intOp, X.den] at hc
    rw [hl] at hc
    have hcm : mcheckM p r s bs = blkF (fun x => mofM x r s) (fun e => mapE (endM e r bs.length 21)) 400 0 bs := by unfold mcheckM; rw [if_neg (by grind (splits := 60))]
    have hb16 : bs.length ≤ 16 := by grind (splits := 60)
    clear hc
    refine h_range (n := bs.length) (fun i h' => h.le h' ∧ blkF (fun x => mofM x r s) (fun e => mapE (endM e r bs.length 21)) 400 0 bs = blkF (fun x => mofM x r s) (fun e => mapE (endM e r bs.length 21)) 400 i (bs.drop i)) hl (by omega) rfl (by omega)
      ⟨H.le_refl _, rfl⟩ ?_ ?_
    · rintro i h1 J hi ⟨hl1, hI⟩ hJ
      have hy : bs[i]? = some bs[i] := List.getElem?_eq_getElem hi
      generalize bs[i] = y at hy
      have hst := blkF_step hy hI
      obtain ⟨cs, ⟨u, rfl, hu⟩, hr⟩ := (SlAt.le blkC_mono hl1 hv).get i y hy
      refine h_load (u :: endC y.en) ⟨hu.fit, endFit y.en⟩ (fun _ => hr) ?_
      have hul := hu.len
      refine h_ite (fun hc => ⟨rfl, hl1, ?_⟩) (fun hc => ?_)
      · replace hc : decide (((400 : Int)) < (vlen u : Nat)) = true := hc
        simp only [decide_eq_true_eq] at hc
        rw [hul] at hc
        rw [if_pos (by omega)] at hst
        rw [hcm, hst]; rfl
      · replace hc : decide (((400 : Int)) < (vlen u : Nat)) = false := hc
        simp only [decide_eq_false_iff_not] at hc
        rw [hul] at hc
        rw [if_neg (by omega)] at hst
        refine h_range (n := y.ins.length) (fun k h' => h1.le h' ∧ insF (fun x => mofM x r s) 0 y.ins = insF (fun x => mofM x r s) k (y.ins.drop k)) hul (by omega) rfl (by omega) ⟨H.le_refl _, rfl⟩ ?_ ?_
        · rintro k h2 J2 hk ⟨hl2, hI2⟩ hJ2
          have hz : y.ins[k]? = some y.ins[k] := List.getElem?_eq_getElem hk
          generalize y.ins[k] = z at hz
          have hst2 := insF_step hz hI2
          obtain ⟨cs2, ⟨w, rfl, hw⟩, hr2⟩ := (SlAt.le insC_mono hl2 hu).get k z hz
          refine h_load (insC z w) (insFit z w hw.fit) (fun _ => hr2) (h_call0 (s63 z w p r s v hw hv.fit) ?_)
          rintro q h3 ⟨hl3, rfl⟩
          refine ⟨[.int .i64 (mofM z r s)], ⟨⟨_, rfl⟩, trivial⟩, rfl, h_ite (fun hf => ⟨rfl, (hl1.trans hl2).trans hl3, ?_⟩) (fun hf => ?_)⟩
          · replace hf : cmpOp .neq (mofM z r s) 0 = true := hf
            rw [cmp_neq, decide_eq_true_eq] at hf
            rw [if_pos hf] at hst2
            rw [hst2] at hst
            rw [hcm, hst]; rfl
          · replace hf : cmpOp .neq (mofM z r s) 0 = false := hf
            rw [cmp_neq, decide_eq_false_iff_not] at hf
            rw [if_neg hf] at hst2
            exact hJ2 _ ⟨hl2.trans hl3, hst2⟩
        · rintro h2 J2 ⟨hl2, hI2⟩
          rw [List.drop_eq_nil_of_le (Nat.le_refl _)] at hI2
          have hI3 : insF (fun x => mofM x r s) 0 y.ins = none := hI2
          rw [hI3] at hst
          have hb : ((vlen v : Nat) : Int) = bs.length := by rw [hl]
          refine h_call0 (Q := fun q h' => h' = h2 ∧ q = .int .i64 (endM y.en r bs.length 21)) (by have := s54 (h := h2) y.en r (vlen v : Nat); rw [hb] at this; rw [← hb] at this ⊢; exact this) ?_
          rintro q _ ⟨rfl, rfl⟩
          refine ⟨[.int .i64 (endM y.en r bs.length 21)], ⟨⟨_, rfl⟩, trivial⟩, rfl, h_call0 (s64 (endM y.en r bs.length 21)) ?_⟩
          rintro q _ ⟨rfl, rfl⟩
          refine ⟨[.int .i64 (mapE (endM y.en r bs.length 21))], ⟨⟨_, rfl⟩, trivial⟩, rfl, h_ite (fun hf => ⟨rfl, hl1.trans hl2, ?_⟩) (fun hf => ?_)⟩
          · replace hf : cmpOp .neq (mapE (endM y.en r bs.length 21)) 0 = true := hf
            rw [cmp_neq, decide_eq_true_eq] at hf
            simp only [if_pos hf] at hst
            rw [hcm, hst, ← hul]; rfl
          · replace hf : cmpOp .neq (mapE (endM y.en r bs.length 21)) 0 = false := hf
            rw [cmp_neq, decide_eq_false_iff_not] at hf
            simp only [if_neg hf] at hst
            exact hJ _ ⟨hl1.trans hl2, hst⟩
    · rintro h1 J ⟨hl1, hI⟩
      refine ⟨rfl, hl1, ?_⟩
      rw [hcm, hI, List.drop_eq_nil_of_le (Nat.le_refl _)]; rfl
def fIns : Ins := ⟨8, 0, 0, 0, 0, 0, []⟩
end Go.Proofs.Ythnoplfjcdkacaa

/-
  What the document's Uses and SameInts compute. Conditions: as each contract says.
-/
set_option linter.unusedVariables false
set_option linter.unusedSimpArgs false
namespace Go.Proofs.Ythnoplfjcdkacaa
open Go

theorem s78 {h : H} (x : Ins) (v : Value) (hv : IntsAt h v x.args) :
    CallsA Try.prog 78 (fun _ => [.agg (insC x v).toArray]) [] h (Ret fun r h' => h.le h' ∧ IntsAt h' r (usesM x)) := by
  refine c78 (G := insC x v) (insFit x v hv.fit) ?_
  refine h_ite (fun hc => fun b hb => ⟨rfl, H.le_put hb, ?_⟩) (fun hc => h_ite (fun hc2 => fun b hb => ⟨rfl, H.le_put hb, ?_⟩) (fun hc2 => h_ite (fun hc3 => ⟨rfl, H.le_refl _, ?_⟩) (fun hc3 => ⟨rfl, H.le_refl _, ?_⟩)))
  · simp only [holds, X.den, PE.den, SV.den, SV.denL, NK.val, NK.sv, NK.pub, gv_zero, gv_succ, vi_int, vb_bool, vlen_sl, vaddr_ptr, vb_ite, vi_ite, cmp_eql, cmp_neq, cmp_lss, cmp_leq, cmp_gtr, cmp_geq, List.map_nil, List.map_cons, List.cons_append, List.nil_append, List.flatten_nil, needs, Ret, true_and, and_true, decide_eq_true_eq, forall_const, intOp, insC] at hc
    have hu : usesM x = [x.a] := by unfold usesM; grind
    rw [hu]
    exact (own_new (h0 := h) (l := [x.a]) hb).ints
  · simp only [holds, X.den, PE.den, SV.den, SV.denL, NK.val, NK.sv, NK.pub, gv_zero, gv_succ, vi_int, vb_bool, vlen_sl, vaddr_ptr, vb_ite, vi_ite, cmp_eql, cmp_neq, cmp_lss, cmp_leq, cmp_gtr, cmp_geq, List.map_nil, List.map_cons, List.cons_append, List.nil_append, List.flatten_nil, needs, Ret, true_and, and_true, decide_eq_true_eq, forall_const, intOp, insC] at hc hc2
    have hu : usesM x = [x.a, x.b] := by unfold usesM; grind
    rw [hu]
    exact (own_new (h0 := h) (l := [x.a, x.b]) hb).ints
  · simp only [holds, X.den, PE.den, SV.den, SV.denL, NK.val, NK.sv, NK.pub, gv_zero, gv_succ, vi_int, vb_bool, vlen_sl, vaddr_ptr, vb_ite, vi_ite, cmp_eql, cmp_neq, cmp_lss, cmp_leq, cmp_gtr, cmp_geq, List.map_nil, List.map_cons, List.cons_append, List.nil_append, List.flatten_nil, needs, Ret, true_and, and_true, decide_eq_true_eq, forall_const, intOp, insC] at hc hc2 hc3
    have hu : usesM x = x.args := by unfold usesM; grind
    rw [hu]; exact hv
  · simp only [holds, X.den, PE.den, SV.den, SV.denL, NK.val, NK.sv, NK.pub, gv_zero, gv_succ, vi_int, vb_bool, vlen_sl, vaddr_ptr, vb_ite, vi_ite, cmp_eql, cmp_neq, cmp_lss, cmp_leq, cmp_gtr, cmp_geq, List.map_nil, List.map_cons, List.cons_append, List.nil_append, List.flatten_nil, needs, Ret, true_and, and_true, decide_eq_true_eq, forall_const, intOp, insC] at hc hc2 hc3
    have hu : usesM x = [] := by unfold usesM; grind
    rw [hu]; exact SlAt.nil
theorem s62 {h : H} {u v : Value} {l m : List Int} (hu : IntsAt h u l) (hv : IntsAt h v m) (hl : l.length ≤ 100000) : CallsA Try.prog 62 (fun _ => [u, v]) [] h (Ret fun r h' => h' = h ∧ r = .bool (decide (l = m))) := by
  refine c62 (G := [u, v]) ⟨hu.fit, hv.fit, trivial⟩ ?_
  have hul := hu.len
  have hvl := hv.len
  refine h_ite (fun hc => ⟨rfl, rfl, ?_⟩) (fun hc => ?_)
  · simp only [holds, X.den, PE.den, SV.den, SV.denL, NK.val, NK.sv, NK.pub, gv_zero, gv_succ, vi_int, vb_bool, vlen_sl, vaddr_ptr, vb_ite, vi_ite, cmp_eql, cmp_neq, cmp_lss, cmp_leq, cmp_gtr, cmp_geq, List.map_nil, List.map_cons, List.cons_append, List.nil_append, List.flatten_nil, needs, Ret, true_and, and_true, decide_eq_true_eq, forall_const, intOp, X.den] at hc ⊢
    rw [hul, hvl] at hc
    have : l ≠ m := fun e => by rw [e] at hc; omega
    simp [this]
  · simp only [holds, X.den, PE.den, SV.den, SV.denL, NK.val, NK.sv, NK.pub, gv_zero, gv_succ, vi_int, vb_bool, vlen_sl, vaddr_ptr, vb_ite, vi_ite, cmp_eql, cmp_neq, cmp_lss, cmp_leq, cmp_gtr, cmp_geq, List.map_nil, List.map_cons, List.cons_append, List.nil_append, List.flatten_nil, needs, Ret, true_and, and_true, decide_eq_true_eq, forall_const, intOp, X.den] at hc
    rw [hul, hvl] at hc
    have hlm : l.length = m.length := by simp at hc; omega
    refine h_range (n := l.length) (fun i h' => h' = h ∧ l.take i = m.take i) hul (by omega) rfl (by omega) ⟨rfl, rfl⟩ ?_ ?_
    · rintro i h' J hi ⟨rfl, hI⟩ hJ
      have hx : l[i]? = some l[i] := List.getElem?_eq_getElem hi
      have hy : m[i]? = some m[i] := List.getElem?_eq_getElem (by omega)
      have hxy : (l[i] = m[i]) ↔ l.take (i + 1) = m.take (i + 1) := by
        rw [List.take_add_one (l := l), List.take_add_one (l := m), hI, hx, hy]
        simp only [Option.toList_some]
        exact ⟨fun e => by rw [e], fun e => List.singleton_inj.1 (List.append_cancel_left e)⟩
      generalize l[i] = x at hx hxy
      generalize m[i] = y at hy hxy
      refine h_load [.int .i64 x] ⟨⟨_, rfl⟩, trivial⟩ (fun _ => hu.read hx) ⟨fun _ => ⟨?_, ?_, trivial⟩, h_load [.int .i64 y] ⟨⟨_, rfl⟩, trivial⟩ (fun _ => hv.read hy) (h_ite (fun hc => ⟨rfl, rfl, ?_⟩) (fun hc => ?_))⟩
      · show decide ((0 : Int) ≤ (i : Int)) = true
        simp
      · show decide ((i : Int) < (vlen v : Nat)) = true
        rw [hvl]; simp; omega
      · replace hc : cmpOp .neq x y = true := hc
        rw [cmp_neq, decide_eq_true_eq] at hc
        have : l ≠ m := fun e => hc (hxy.2 (by rw [e]))
        show Value.bool false = _
        simp [this]
      · replace hc : cmpOp .neq x y = false := hc
        rw [cmp_neq, decide_eq_false_iff_not, Decidable.not_not] at hc
        exact hJ _ ⟨rfl, hxy.1 hc⟩
    · rintro h' J ⟨rfl, hI⟩
      rw [List.take_of_length_le (Nat.le_refl _), List.take_of_length_le (by omega)] at hI
      refine ⟨rfl, rfl, ?_⟩
      show Value.bool true = _
      simp [hI]
end Go.Proofs.Ythnoplfjcdkacaa

/-
  What a reading of an argument says: an end, an instruction, a block. Conditions: none.
-/
set_option linter.unusedVariables false
set_option linter.unusedSimpArgs false
namespace Go.Proofs.Ythnoplfjcdkacaa
open Go Go.ChangeShapes Go.WideShapes Go.ChangeAt Go.RowKit
section
variable {Hh : Type} {enc : TypeId × Value → Hh} {W : World}
theorem rd_end {cs : List Value} (h : Rd enc Try.prog W 80 cs) : ∃ e, cs = endC e := by
  obtain ⟨a0, _, rfl, r0, a1, _, rfl, r1, a2, _, rfl, r2, a3, _, rfl, r3, rfl⟩ := h.parts Try.underlying80 (by kernel_rfl)
  obtain ⟨n0, rfl, _⟩ := r0.int Try.underlying78
  obtain ⟨n1, rfl, _⟩ := r1.int Try.underlying3
  obtain ⟨n2, rfl, _⟩ := r2.int Try.underlying3
  obtain ⟨n3, rfl, _⟩ := r3.int Try.underlying3
  exact ⟨⟨n0, n1, n2, n3⟩, rfl⟩
theorem rd_ins {cs : List Value} (h : Rd enc Try.prog W 87 cs) : ∃ x v, cs = insC x v ∧ IntsAt (hOf W) v x.args := by
  obtain ⟨a0, _, rfl, r0, a1, _, rfl, r1, a2, _, rfl, r2, a3, _, rfl, r3, a4, _, rfl, r4, a5, _, rfl, r5, a6, _, rfl, r6, rfl⟩ := h.parts Try.underlying87 (by kernel_rfl)
  obtain ⟨n0, rfl, _⟩ := r0.int Try.underlying84
  obtain ⟨n1, rfl, _⟩ := r1.int Try.underlying85
  obtain ⟨n2, rfl, _⟩ := r2.int Try.underlying3
  obtain ⟨n3, rfl, _⟩ := r3.int Try.underlying3
  obtain ⟨n4, rfl, _⟩ := r4.int Try.underlying3
  obtain ⟨n5, rfl, _⟩ := r5.int Try.underlying2
  obtain ⟨v, l, rfl, hv, _⟩ := r6.ints Try.underlying52 Try.underlying3 (by kernel_rfl)
  exact ⟨⟨n0, n1, n2, n3, n4, n5, l⟩, v, rfl, hv⟩
theorem rd_blk {cs : List Value} (h : Rd enc Try.prog W 83 cs) : ∃ b, BlkC (hOf W) cs b := by
  obtain ⟨a0, _, rfl, r0, a1, _, rfl, r1, rfl⟩ := h.parts Try.underlying83 (by kernel_rfl)
  obtain ⟨v, l, rfl, hv, _⟩ := r0.slice (Rep := InsC) Try.underlying81 (by kernel_rfl) fun cs' hr => by obtain ⟨x, v, h1, h2⟩ := rd_ins hr; exact ⟨x, v, h1, h2⟩
  obtain ⟨e, rfl⟩ := rd_end r1
  exact ⟨⟨l, e⟩, v, by simp, hv⟩
theorem rd_blks {cs : List Value} (h : Rd enc Try.prog W 22 cs) : ∃ v l, cs = [v] ∧ BlksAt (hOf W) v l ∧ vcap v ≤ maxLen :=
  h.slice Try.underlying22 (by kernel_rfl) fun cs' hr => rd_blk hr
theorem rd_bytes {cs : List Value} (h : Rd enc Try.prog W 25 cs) : ∃ v l, cs = [v] ∧ BytesAt (hOf W) v l ∧ vcap v ≤ maxLen :=
  h.slice Try.underlying25 (by kernel_rfl) fun cs' hr => by
    obtain ⟨n, rfl, hw⟩ := hr.int Try.underlying5
    have : 0 ≤ n ∧ n ≤ 255 := by simpa [Lit.wf, IntKind.min, IntKind.max, IntKind.signed, IntKind.bits] using hw
    exact ⟨n, rfl, this⟩
theorem rd_spec {cs : List Value} (h : Rd enc Try.prog W 27 cs) : ∃ p0 p1 p2 v l, cs = [.int .u8 p0, .int .u8 p1, .int .u8 p2, v] ∧ 0 ≤ p0 ∧ 0 ≤ p1 ∧ 0 ≤ p2 ∧ BytesAt (hOf W) v l := by
  obtain ⟨a0, _, rfl, r0, a1, _, rfl, r1, a2, _, rfl, r2, a3, _, rfl, r3, rfl⟩ := h.parts Try.underlying27 (by kernel_rfl)
  obtain ⟨n0, rfl, w0⟩ := r0.int Try.underlying5
  obtain ⟨n1, rfl, w1⟩ := r1.int Try.underlying5
  obtain ⟨n2, rfl, w2⟩ := r2.int Try.underlying5
  obtain ⟨v, l, rfl, hv, _⟩ := rd_bytes r3
  have g0 : 0 ≤ n0 ∧ n0 ≤ 255 := by simpa [Lit.wf, IntKind.min, IntKind.max, IntKind.signed, IntKind.bits] using w0
  have g1 : 0 ≤ n1 ∧ n1 ≤ 255 := by simpa [Lit.wf, IntKind.min, IntKind.max, IntKind.signed, IntKind.bits] using w1
  have g2 : 0 ≤ n2 ∧ n2 ≤ 255 := by simpa [Lit.wf, IntKind.min, IntKind.max, IntKind.signed, IntKind.bits] using w2
  exact ⟨n0, n1, n2, v, l, rfl, g0.1, g1.1, g2.1, hv⟩
theorem u8r {n : Int} (w : (Lit.int .u8 n).wf = true) : 0 ≤ n ∧ n ≤ 255 := by simpa [Lit.wf, IntKind.min, IntKind.max, IntKind.signed, IntKind.bits] using w
theorem rd_func {cs : List Value} (h : Rd enc Try.prog W 24 cs) : ∃ p n v bs, cs = [.int .i64 p, .int .i64 n, v] ∧ BlksAt (hOf W) v bs := by
  obtain ⟨a0, _, rfl, r0, a1, _, rfl, r1, a2, _, rfl, r2, rfl⟩ := h.parts Try.underlying24 (by kernel_rfl)
  obtain ⟨n0, rfl, _⟩ := r0.int Try.underlying3
  obtain ⟨n1, rfl, _⟩ := r1.int Try.underlying3
  obtain ⟨v, l, rfl, hv, _⟩ := rd_blks r2
  exact ⟨n0, n1, v, l, rfl, hv⟩
theorem rd_code {cs : List Value} (h : Rd enc Try.prog W 44 cs) : ∃ p r s v bs, cs = [.int .i64 p, .int .i64 r, .int .i64 s, v] ∧ BlksAt (hOf W) v bs := by
  obtain ⟨a0, _, rfl, r0, a1, _, rfl, r1, a2, _, rfl, r2, a3, _, rfl, r3, rfl⟩ := h.parts Try.underlying44 (by kernel_rfl)
  obtain ⟨n0, rfl, _⟩ := r0.int Try.underlying3
  obtain ⟨n1, rfl, _⟩ := r1.int Try.underlying3
  obtain ⟨n2, rfl, _⟩ := r2.int Try.underlying3
  obtain ⟨v, l, rfl, hv, _⟩ := rd_blks r3
  exact ⟨n0, n1, n2, v, l, rfl, hv⟩
end
end Go.Proofs.Ythnoplfjcdkacaa
