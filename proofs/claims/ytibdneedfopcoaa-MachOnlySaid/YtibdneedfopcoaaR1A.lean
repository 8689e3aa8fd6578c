/-
  What the functions that judge an instruction and an end compute. Conditions: as each contract says.
-/
import Derived.Test.YtibdneedfopcoaaRow
import Derived.Test.YtibdneedfopcoaaR1Tr
set_option linter.unusedVariables false
set_option linter.unusedSimpArgs false
namespace Go.Proofs.Ytibdneedfopcoaa
open Go

structure Ins where
  kind : Int
  op : Int
  d : Int
  a : Int
  b : Int
  n : Int
  args : List Int
structure Fin4 where
  kind : Int
  a : Int
  to : Int
  el : Int
structure Blk where
  ins : List Ins
  en : Fin4
def insC (x : Ins) (v : Value) : List Value := [.int .u8 x.kind, .int .u8 x.op, .int .i64 x.d, .int .i64 x.a, .int .i64 x.b, .int .i64 x.n, v]
def insG (x : Ins) (v : Value) (l : List Value) : List Value := .int .u8 x.kind :: .int .u8 x.op :: .int .i64 x.d :: .int .i64 x.a :: .int .i64 x.b :: .int .i64 x.n :: v :: l
def endC (e : Fin4) : List Value := [.int .u8 e.kind, .int .i64 e.a, .int .i64 e.to, .int .i64 e.el]
def InsC (h : H) (cs : List Value) (x : Ins) : Prop := ∃ v, cs = insC x v ∧ IntsAt h v x.args
def BlkC (h : H) (cs : List Value) (b : Blk) : Prop := ∃ v, cs = v :: endC b.en ∧ SlAt 7 InsC h v b.ins
theorem insC_mono : Mono InsC := fun _ _ _ _ hl ⟨v, h1, h2⟩ => ⟨v, h1, h2.le hl⟩
theorem blkC_mono : Mono BlkC := fun _ _ _ _ hl ⟨v, h1, h2⟩ => ⟨v, h1, SlAt.le insC_mono hl h2⟩

def usesM (x : Ins) : List Int := if x.kind = 2 ∨ x.kind = 4 ∨ x.kind = 7 then [x.a] else if x.kind = 3 ∨ x.kind = 5 then [x.a, x.b] else if x.kind = 6 then x.args else []
def givesM (k : Int) : Bool := decide (k = 1 ∨ k = 2 ∨ k = 3 ∨ k = 4 ∨ k = 6 ∨ k = 8)
def lastM (e : Fin4) : Bool := decide (e.kind = 2 ∨ e.kind = 3)
theorem insFit (x : Ins) (v : Value) (hv : Fits .sl v) : FitsL [.int .u8, .int .u8, .int .i64, .int .i64, .int .i64, .int .i64, .sl] (insC x v) :=
  ⟨⟨_, rfl⟩, ⟨_, rfl⟩, ⟨_, rfl⟩, ⟨_, rfl⟩, ⟨_, rfl⟩, ⟨_, rfl⟩, hv, trivial⟩
theorem insGFit (x : Ins) (v : Value) (hv : Fits .sl v) {s : List Sh} {l : List Value} (h : FitsL s l) : FitsL (.int .u8 :: .int .u8 :: .int .i64 :: .int .i64 :: .int .i64 :: .int .i64 :: .sl :: s) (insG x v l) :=
  ⟨⟨_, rfl⟩, ⟨_, rfl⟩, ⟨_, rfl⟩, ⟨_, rfl⟩, ⟨_, rfl⟩, ⟨_, rfl⟩, hv, h⟩
theorem endFit (e : Fin4) : FitsL [.int .u8, .int .i64, .int .i64, .int .i64] (endC e) := ⟨⟨_, rfl⟩, ⟨_, rfl⟩, ⟨_, rfl⟩, ⟨_, rfl⟩, trivial⟩

theorem s22 {h : H} (x : Ins) (v : Value) (hv : Fits .sl v) :
    CallsA Try.prog 22 (fun _ => [.agg (insC x v).toArray]) [] h (Ret fun r h' => h' = h ∧ r = .tuple #[.int .i64 (if givesM x.kind then x.d else 0), .bool (givesM x.kind)]) := by
  refine c22 (G := insC x v) (insFit x v hv) ?_
  unfold t22
  simp only [holds, X.den, SV.den, SV.denL, insC, gv_zero, gv_succ, vi_int, vb_bool, vb_ite, cmp_eql, List.map_nil, Ret, true_and, decide_eq_true_eq]
  constructor
  · intro hc
    have : givesM x.kind = true := by unfold givesM; simp; grind (splits := 40)
    simp [this]
  · intro hc
    have : givesM x.kind = false := by unfold givesM; simp; grind (splits := 40)
    simp [this]
theorem s23 {h : H} (e : Fin4) :
    CallsA Try.prog 23 (fun _ => [.agg (endC e).toArray]) [] h (Ret fun r h' => h' = h ∧ r = .tuple #[.int .i64 e.a, .bool (lastM e)]) := by
  refine c23 (G := endC e) (endFit e) ?_
  unfold t23
  simp only [holds, X.den, SV.den, SV.denL, endC, gv_zero, gv_succ, vi_int, vb_bool, vb_ite, cmp_eql, List.map_nil, Ret, true_and, decide_eq_true_eq, lastM]
  congr 2
  grind
theorem s24 {h : H} (k : Int) : CallsA Try.prog 24 (fun _ => [.int .u8 k]) [] h (Ret fun r h' => h' = h ∧ r = .bool (givesM k)) := by
  refine c24 (G := [.int .u8 k]) ⟨⟨_, rfl⟩, trivial⟩ ?_
  unfold t24
  simp only [holds, X.den, SV.den, SV.denL, gv_zero, gv_succ, vi_int, vb_bool, vb_ite, cmp_eql, List.map_nil, Ret, true_and, decide_eq_true_eq, givesM]
  congr 1
  grind
theorem s25 {h : H} (e : Fin4) : CallsA Try.prog 25 (fun _ => [.agg (endC e).toArray]) [] h (Ret fun r h' => h' = h ∧ r = .bool (lastM e)) := by
  refine c25 (G := endC e) (endFit e) ?_
  unfold t25
  simp only [holds, X.den, SV.den, SV.denL, endC, gv_zero, gv_succ, vi_int, vb_bool, vb_ite, cmp_eql, List.map_nil, Ret, true_and, decide_eq_true_eq, lastM]
  congr 1
  grind
def plainM (x : Ins) : Prop := (x.op = 0 ∨ x.kind = 3) ∧ (x.d = 0 ∨ x.kind = 1 ∨ x.kind = 2 ∨ x.kind = 3 ∨ x.kind = 4 ∨ x.kind = 6) ∧ (x.a = 0 ∨ x.kind = 2 ∨ x.kind = 4 ∨ x.kind = 3 ∨ x.kind = 5) ∧
  (x.b = 0 ∨ x.kind = 3 ∨ x.kind = 5) ∧ (x.n = 0 ∨ x.kind = 1 ∨ x.kind = 6) ∧ (x.args = [] ∨ x.kind = 6)
instance (x : Ins) : Decidable (plainM x) := by unfold plainM; infer_instance
theorem len_zero {l : List Int} {v : Value} (h : vlen v = l.length) : ((vlen v : Nat) : Int) = 0 ↔ l = [] := by
  rw [h]; cases l <;> simp <;> omega
theorem s44 {h : H} (x : Ins) (v : Value) (hv : Fits .sl v) (hl : vlen v = x.args.length) :
    CallsA Try.prog 44 (fun _ => [.agg (insC x v).toArray]) [] h (Ret fun r h' => h' = h ∧ r = .bool (decide (plainM x))) := by
  refine c44 (G := insC x v) (insFit x v hv) ?_
  unfold t44
  have hz := len_zero hl
  simp only [holds, X.den, PE.den, SV.den, SV.denL, NK.val, NK.sv, NK.pub, gv_zero, gv_succ, vi_int, vb_bool, vlen_sl, vaddr_ptr, vb_ite, vi_ite, cmp_eql, cmp_neq, cmp_lss, cmp_leq, cmp_gtr, cmp_geq, List.map_nil, List.map_cons, List.cons_append, List.nil_append, List.flatten_nil, needs, Ret, true_and, and_true, decide_eq_true_eq, forall_const, intOp, insC, Value.bool.injEq, hz, plainM]
  grind (splits := 60)
theorem zero3 : (zeroCells Try.prog 3).getD [] = [.int .i64 0] := by kernel_rfl
theorem s19 {h : H} (x : Ins) (v : Value) (hv : IntsAt h v x.args) (hl : x.args.length ≤ 10000) :
    CallsA Try.prog 19 (fun _ => [.agg (insC x v).toArray]) [] h (Ret fun r h' => h.le h' ∧ OwnInts h h' r (usesM x)) := by
  refine c19 (G := insC x v) (insFit x v hv.fit) ?_
  refine h_ite (fun hc => fun b hb => ⟨rfl, H.le_put hb, ?_⟩) (fun hc => h_ite (fun hc2 => fun b hb => ⟨rfl, H.le_put hb, ?_⟩) (fun hc2 => h_ite (fun hc3 => fun b hb => ?_) (fun hc3 => ⟨rfl, H.le_refl _, ?_⟩)))
  · simp only [holds, X.den, PE.den, SV.den, SV.denL, NK.val, NK.sv, NK.pub, gv_zero, gv_succ, vi_int, vb_bool, vlen_sl, vaddr_ptr, vb_ite, vi_ite, cmp_eql, cmp_neq, cmp_lss, cmp_leq, cmp_gtr, cmp_geq, List.map_nil, List.map_cons, List.cons_append, List.nil_append, List.flatten_nil, needs, Ret, true_and, and_true, decide_eq_true_eq, forall_const, intOp, insC] at hc
    have hu : usesM x = [x.a] := by unfold usesM; grind
    rw [hu]
    exact own_new (l := [x.a]) hb
  · simp only [holds, X.den, PE.den, SV.den, SV.denL, NK.val, NK.sv, NK.pub, gv_zero, gv_succ, vi_int, vb_bool, vlen_sl, vaddr_ptr, vb_ite, vi_ite, cmp_eql, cmp_neq, cmp_lss, cmp_leq, cmp_gtr, cmp_geq, List.map_nil, List.map_cons, List.cons_append, List.nil_append, List.flatten_nil, needs, Ret, true_and, and_true, decide_eq_true_eq, forall_const, intOp, insC] at hc hc2
    have hu : usesM x = [x.a, x.b] := by unfold usesM; grind
    rw [hu]
    exact own_new (l := [x.a, x.b]) hb
  · simp only [holds, X.den, PE.den, SV.den, SV.denL, NK.val, NK.sv, NK.pub, gv_zero, gv_succ, vi_int, vb_bool, vlen_sl, vaddr_ptr, vb_ite, vi_ite, cmp_eql, cmp_neq, cmp_lss, cmp_leq, cmp_gtr, cmp_geq, List.map_nil, List.map_cons, List.cons_append, List.nil_append, List.flatten_nil, needs, Ret, true_and, and_true, decide_eq_true_eq, forall_const, intOp, insC] at hc hc2 hc3
    have hu : usesM x = x.args := by unfold usesM; grind
    rw [hu]
    refine ⟨x.args.map (.int .i64), x.args.length, ⟨by simp, by simp [Value.oneCell'], (hv.le (H.le_put hb)).src⟩, ?_⟩
    refine app_row (h0 := h) (cs := []) (own_new (l := []) hb) (H.le_put hb) (by simp) (by rw [zero3]; rfl) ?_ ?_
    · show (0 + x.args.length) * 8 ≤ _; omega
    · intro v' h' h1 h2 h3 h4 h5
      exact ⟨rfl, h3, h1⟩
  · simp only [holds, X.den, PE.den, SV.den, SV.denL, NK.val, NK.sv, NK.pub, gv_zero, gv_succ, vi_int, vb_bool, vlen_sl, vaddr_ptr, vb_ite, vi_ite, cmp_eql, cmp_neq, cmp_lss, cmp_leq, cmp_gtr, cmp_geq, List.map_nil, List.map_cons, List.cons_append, List.nil_append, List.flatten_nil, needs, Ret, true_and, and_true, decide_eq_true_eq, forall_const, intOp, insC] at hc hc2 hc3
    have hu : usesM x = [] := by unfold usesM; grind
    rw [hu]
    exact .inl ⟨rfl, rfl⟩
def inR (n v : Int) : Bool := decide (0 ≤ v ∧ v < n)
def namedM (x : Ins) : List Int := usesM x ++ (if givesM x.kind then [x.d] else [])
def ofM (x : Ins) (n : Int) : Int :=
  if ¬ (1 ≤ x.kind ∧ x.kind ≤ 6) ∨ (x.kind = 3 ∧ ¬ (1 ≤ x.op ∧ x.op ≤ 7)) ∨ ¬ plainM x then 20
  else if 3 < x.args.length then 25 else if (namedM x).all (inR n) then 0 else 21
theorem usesM_len {x : Ins} (h : x.args.length ≤ 10000) : (usesM x).length ≤ 10000 := by unfold usesM; split <;> (try split) <;> (try split) <;> simp_all
theorem ofM_20 {x : Ins} {n : Int} (h : ¬ (1 ≤ x.kind ∧ x.kind ≤ 6) ∨ (x.kind = 3 ∧ ¬ (1 ≤ x.op ∧ x.op ≤ 7)) ∨ ¬ plainM x) : ofM x n = 20 := by unfold ofM; rw [if_pos h]
/-- The loop that looks at each named number. -/
theorem of_loop {R : Value → List (List Value) → H → Prop} {G : List Value} {L : Lv} {h : H} {v : Value} {l : List Int} {n : Int} {j k : Nat} (hv : IntsAt h v l) (hj : gv G j = v) (hjk : j < k) (h7 : 7 < k) (hk : G.length = k)
    (hn : gv G 7 = .int .i64 n) (hl : l.length ≤ 100000) (H21 : l.all (inR n) = false → R (Value.int .i64 21) [] h) (H0 : l.all (inR n) = true → R (Value.int .i64 0) [] h) :
    holds Try.prog R (.loop 0 [(.int .i64 (.lit 0))] [.int .i64] (.ite (.cmp .lss (.var k) (.len j)) (.need (.tt true) [(.cmp .geq (.var k) (.lit 0)), (.cmp .lss (.var k) (.len j))]
       (.load (.tt true) (.idx (.var j) (.var k) 1) [.int .i64]
       (.ite (.ite (.cmp .lss (.var (k + 1)) (.lit 0)) (.tt true) (.cmp .geq (.var (k + 1)) (.var 7)))
        (.done (.int .i64 (.lit 21)) [])
        (.again 0 [(.int .i64 (.op .add .i64 (.var k) (.lit 1)))]))))
       (.done (.int .i64 (.lit 0)) []))) G L h := by
  refine h_range (n := l.length) (fun i h' => h' = h ∧ ∀ m, m < i → ∀ y, l[m]? = some y → inR n y = true) (by rw [hj]; exact hv.len) hjk hk (by omega) ⟨rfl, fun m hm => absurd hm (Nat.not_lt_zero _)⟩ ?_ ?_
  · rintro i h' J hi ⟨rfl, hI⟩ hJ
    have hy : l[i]? = some l[i] := List.getElem?_eq_getElem hi
    generalize l[i] = y at hy
    have e1 : gv (G ++ [.int .i64 (i : Int)]) k = .int .i64 (i : Int) := by rw [← hk]; exact gv_last
    have e2 : gv (G ++ [.int .i64 (i : Int)]) j = v := by rw [gv_of_lt (by omega), hj]
    refine h_load [.int .i64 y] ⟨⟨_, rfl⟩, trivial⟩ (fun _ => ?_) ?_
    · simp only [PE.den, X.den, e1, e2, vi_int, Int.toNat_natCast]
      exact hv.read hy
    · have e3 : gv (G ++ [.int .i64 (i : Int)] ++ [.int .i64 y]) (k + 1) = .int .i64 y := by
        have : (G ++ [Value.int .i64 (i : Int)]).length = k + 1 := by simp [hk]
        rw [← this]; exact gv_last
      have e4 : gv (G ++ [.int .i64 (i : Int)] ++ [.int .i64 y]) 7 = .int .i64 n := by rw [gv_of_lt (by simp; omega), gv_of_lt (by omega), hn]
      have e5 : gv (G ++ [.int .i64 (i : Int)] ++ [.int .i64 y]) k = .int .i64 (i : Int) := by rw [gv_of_lt (by simp; omega), e1]
      refine h_ite (fun hc => ?_) (fun hc => ?_)
      · refine H21 ?_
        simp only [X.den, e3, e4, vb_ite, vb_bool, vi_int, cmp_lss, cmp_geq, decide_eq_true_eq] at hc
        rw [List.all_eq_false]
        refine ⟨y, List.mem_of_getElem? hy, ?_⟩
        unfold inR; grind
      · show J _ _
        simp only [SV.denL, SV.den, X.den, e5, vi_int]
        refine hJ _ ⟨rfl, fun m hm z hz => ?_⟩
        rcases Nat.lt_succ_iff_lt_or_eq.1 hm with h | rfl
        · exact hI m h z hz
        · rw [hy] at hz; cases hz
          simp only [X.den, e3, e4, vb_ite, vb_bool, vi_int, cmp_lss, cmp_geq, decide_eq_true_eq] at hc
          unfold inR; grind
  · rintro h' J ⟨rfl, hI⟩
    refine H0 ?_
    rw [List.all_eq_true]
    intro y hy
    obtain ⟨m, hm⟩ := List.getElem?_of_mem hy
    exact hI m (List.getElem?_eq_some_iff.1 hm).1 y hm
theorem s39 {h : H} (x : Ins) (v : Value) (n : Int) (hv : IntsAt h v x.args) :
    CallsA Try.prog 39 (fun _ => [.agg (insC x v).toArray, .int .i64 n]) [] h (Ret fun r h' => h.le h' ∧ r = .int .i64 (ofM x n)) := by
  refine c39 (G := insG x v [.int .i64 n]) (insGFit x v hv.fit ⟨⟨_, rfl⟩, trivial⟩) ?_
  have hl := hv.len
  refine h_ite (fun hc => ?_) (fun hc => ⟨rfl, H.le_refl _, ?_⟩)
  rotate_left
  · simp only [holds, X.den, PE.den, SV.den, SV.denL, NK.val, NK.sv, NK.pub, gv_zero, gv_succ, vi_int, vb_bool, vlen_sl, vaddr_ptr, vb_ite, vi_ite, cmp_eql, cmp_neq, cmp_lss, cmp_leq, cmp_gtr, cmp_geq, List.map_nil, List.map_cons, List.cons_append, List.nil_append, List.flatten_nil, needs, Ret, true_and, and_true, decide_eq_true_eq, forall_const, intOp, insG] at hc ⊢
    rw [ofM_20 (by grind)]
  refine h_call0 (s44 x v hv.fit hv.len) ?_
  rintro r hh ⟨rfl, rfl⟩
  refine ⟨[.bool (decide (plainM x))], ⟨⟨_, rfl⟩, trivial⟩, rfl, h_ite (fun hp => ⟨rfl, H.le_refl _, ?_⟩) (fun hp => h_ite (fun ha => ⟨rfl, H.le_refl _, ?_⟩) (fun ha => ?_))⟩
  · simp only [holds, X.den, PE.den, SV.den, SV.denL, NK.val, NK.sv, NK.pub, gv_zero, gv_succ, vi_int, vb_bool, vlen_sl, vaddr_ptr, vb_ite, vi_ite, cmp_eql, cmp_neq, cmp_lss, cmp_leq, cmp_gtr, cmp_geq, List.map_nil, List.map_cons, List.cons_append, List.nil_append, List.flatten_nil, needs, Ret, true_and, and_true, decide_eq_true_eq, forall_const, intOp, insG] at hp ⊢
    rw [ofM_20 (by grind)]
  · simp only [holds, X.den, PE.den, SV.den, SV.denL, NK.val, NK.sv, NK.pub, gv_zero, gv_succ, vi_int, vb_bool, vlen_sl, vaddr_ptr, vb_ite, vi_ite, cmp_eql, cmp_neq, cmp_lss, cmp_leq, cmp_gtr, cmp_geq, List.map_nil, List.map_cons, List.cons_append, List.nil_append, List.flatten_nil, needs, Ret, true_and, and_true, decide_eq_true_eq, forall_const, intOp, insG] at hp hc ha ⊢
    rw [hl] at ha
    unfold ofM
    rw [if_neg (by grind), if_pos (by omega)]
  · simp only [holds, X.den, PE.den, SV.den, SV.denL, NK.val, NK.sv, NK.pub, gv_zero, gv_succ, vi_int, vb_bool, vlen_sl, vaddr_ptr, vb_ite, vi_ite, cmp_eql, cmp_neq, cmp_lss, cmp_leq, cmp_gtr, cmp_geq, List.map_nil, List.map_cons, List.cons_append, List.nil_append, List.flatten_nil, needs, Ret, true_and, and_true, decide_eq_true_eq, forall_const, intOp, insG] at hp hc ha
    rw [hl] at ha
    simp only [decide_eq_false_iff_not, Int.not_lt] at ha
    have hof : ofM x n = if (namedM x).all (inR n) then 0 else 21 := by unfold ofM; rw [if_neg (by grind), if_neg (by omega)]
    have hul := usesM_len (x := x) (by omega)
    refine h_call0 (s19 x v hv (by omega)) ?_
    rintro u h1 ⟨hl1, hu⟩
    have hui := hu.ints
    refine ⟨[u], ⟨hui.fit, trivial⟩, rfl, h_call0 (s22 x v hv.fit) ?_⟩
    rintro _ _ ⟨rfl, rfl⟩
    refine ⟨[.int .i64 (if givesM x.kind then x.d else 0), .bool (givesM x.kind)], ⟨⟨_, rfl⟩, ⟨_, rfl⟩, trivial⟩, rfl, h_ite (fun hg => ?_) (fun hg => ?_)⟩
    · have hg' : givesM x.kind = true := hg
      have hN : namedM x = usesM x ++ [x.d] := by unfold namedM; rw [if_pos hg']
      rw [hN] at hof
      refine ⟨[.int .i64 x.d], 1, ⟨?_, rfl⟩, app_row hu hl1 rfl (by rw [zero3]; rfl) ?_ ?_⟩
      · simp only [holds, X.den, PE.den, SV.den, SV.denL, NK.val, NK.sv, NK.pub, gv_zero, gv_succ, vi_int, vb_bool, vlen_sl, vaddr_ptr, vb_ite, vi_ite, cmp_eql, cmp_neq, cmp_lss, cmp_leq, cmp_gtr, cmp_geq, List.map_nil, List.map_cons, List.cons_append, List.nil_append, List.flatten_nil, needs, Ret, true_and, and_true, decide_eq_true_eq, forall_const, intOp, insG, if_pos hg']
      · have := hui.len; show (vlen u + 1) * 8 ≤ _; omega
      · intro v' h' k1 k2 k3 k4 k5
        have k1' : OwnInts hh h' v' (usesM x ++ [x.d]) := by unfold OwnInts; rw [List.map_append]; exact k1
        refine of_loop (v := v') (l := usesM x ++ [x.d]) (n := n) k1'.ints rfl (by omega) (by omega) rfl rfl (by simp; omega) (fun e => ⟨rfl, k3, ?_⟩) (fun e => ⟨rfl, k3, ?_⟩)
        · rw [hof, e]; rfl
        · rw [hof, e]; rfl
    · have hg' : givesM x.kind = false := hg
      have hN : namedM x = usesM x := by unfold namedM; rw [hg']; simp
      rw [hN] at hof
      refine of_loop (v := u) (l := usesM x) (n := n) hui rfl (by omega) (by omega) rfl rfl (by omega) (fun e => ⟨rfl, hl1, ?_⟩) (fun e => ⟨rfl, hl1, ?_⟩)
      · rw [hof, e]; rfl
      · rw [hof, e]; rfl
def endM (e : Fin4) (n m : Int) (vreg : Int) : Int :=
  if e.kind < 1 ∨ 3 < e.kind ∨ (e.kind = 1 ∧ e.a ≠ 0) ∨ (e.kind = 3 ∧ e.to ≠ 0) ∨ (e.kind ≠ 2 ∧ e.el ≠ 0) then 20
  else if e.kind ≠ 1 ∧ ¬ (0 ≤ e.a ∧ e.a < n) then vreg
  else if (e.kind ≠ 3 ∧ ¬ (0 ≤ e.to ∧ e.to < m)) ∨ (e.kind = 2 ∧ ¬ (0 ≤ e.el ∧ e.el < m)) then 22 else 0
theorem s26 {h : H} (e : Fin4) (n m : Int) : CallsA Try.prog 26 (fun _ => [.agg (endC e).toArray, .int .i64 n, .int .i64 m]) [] h (Ret fun r h' => h' = h ∧ r = .int .i64 (endM e n m 21)) := by
  refine c26 (G := [.int .u8 e.kind, .int .i64 e.a, .int .i64 e.to, .int .i64 e.el, .int .i64 n, .int .i64 m]) ⟨⟨_, rfl⟩, ⟨_, rfl⟩, ⟨_, rfl⟩, ⟨_, rfl⟩, ⟨_, rfl⟩, ⟨_, rfl⟩, trivial⟩ ?_
  refine h_call0 (s23 e) ?_
  rintro r hh ⟨rfl, rfl⟩
  refine ⟨[.int .i64 e.a, .bool (lastM e)], ⟨⟨_, rfl⟩, ⟨_, rfl⟩, trivial⟩, rfl, ?_⟩
  simp only [holds, X.den, PE.den, SV.den, SV.denL, NK.val, NK.sv, NK.pub, gv_zero, gv_succ, vi_int, vb_bool, vlen_sl, vaddr_ptr, vb_ite, vi_ite, cmp_eql, cmp_neq, cmp_lss, cmp_leq, cmp_gtr, cmp_geq, List.map_nil, List.map_cons, List.cons_append, List.nil_append, List.flatten_nil, needs, Ret, true_and, and_true, decide_eq_true_eq, forall_const, intOp, lastM, Value.int.injEq]
  unfold endM
  grind (splits := 60)
theorem s27 {h : H} (e : Fin4) (n m r0 : Int) : CallsA Try.prog 27 (fun _ => [.agg (endC e).toArray, .int .i64 n, .int .i64 m, .int .i64 r0]) [] h (Ret fun r h' => h' = h ∧ r = .int .i64 (endM e n m r0)) := by
  refine c27 (G := [.int .u8 e.kind, .int .i64 e.a, .int .i64 e.to, .int .i64 e.el, .int .i64 n, .int .i64 m, .int .i64 r0]) ⟨⟨_, rfl⟩, ⟨_, rfl⟩, ⟨_, rfl⟩, ⟨_, rfl⟩, ⟨_, rfl⟩, ⟨_, rfl⟩, ⟨_, rfl⟩, trivial⟩ ?_
  refine h_ite (fun h1 => ?_) (fun h1 => h_ite (fun h2 => ?_) (fun h2 => h_ite (fun h3 => ?_) (fun h3 => ?_)))
  · simp only [holds, X.den, PE.den, SV.den, SV.denL, NK.val, NK.sv, NK.pub, gv_zero, gv_succ, vi_int, vb_bool, vlen_sl, vaddr_ptr, vb_ite, vi_ite, cmp_eql, cmp_neq, cmp_lss, cmp_leq, cmp_gtr, cmp_geq, List.map_nil, List.map_cons, List.cons_append, List.nil_append, List.flatten_nil, needs, Ret, true_and, and_true, decide_eq_true_eq, forall_const, intOp, Value.int.injEq] at h1 ⊢
    unfold endM; grind (splits := 60)
  · simp only [holds, X.den, PE.den, SV.den, SV.denL, NK.val, NK.sv, NK.pub, gv_zero, gv_succ, vi_int, vb_bool, vlen_sl, vaddr_ptr, vb_ite, vi_ite, cmp_eql, cmp_neq, cmp_lss, cmp_leq, cmp_gtr, cmp_geq, List.map_nil, List.map_cons, List.cons_append, List.nil_append, List.flatten_nil, needs, Ret, true_and, and_true, decide_eq_true_eq, forall_const, intOp, Value.int.injEq] at h1 h2 ⊢
    unfold endM; grind (splits := 60)
  · simp only [holds, X.den, PE.den, SV.den, SV.denL, NK.val, NK.sv, NK.pub, gv_zero, gv_succ, vi_int, vb_bool, vlen_sl, vaddr_ptr, vb_ite, vi_ite, cmp_eql, cmp_neq, cmp_lss, cmp_leq, cmp_gtr, cmp_geq, List.map_nil, List.map_cons, List.cons_append, List.nil_append, List.flatten_nil, needs, Ret, true_and, and_true, decide_eq_true_eq, forall_const, intOp, Value.int.injEq] at h1 h2 h3 ⊢
    unfold endM; grind (splits := 60)
  · refine h_call0 (s25 e) ?_
    rintro r hh ⟨rfl, rfl⟩
    refine ⟨[.bool (lastM e)], ⟨⟨_, rfl⟩, trivial⟩, rfl, ?_⟩
    simp only [holds, X.den, PE.den, SV.den, SV.denL, NK.val, NK.sv, NK.pub, gv_zero, gv_succ, vi_int, vb_bool, vlen_sl, vaddr_ptr, vb_ite, vi_ite, cmp_eql, cmp_neq, cmp_lss, cmp_leq, cmp_gtr, cmp_geq, List.map_nil, List.map_cons, List.cons_append, List.nil_append, List.flatten_nil, needs, Ret, true_and, and_true, decide_eq_true_eq, forall_const, intOp, lastM, Value.int.injEq] at h1 h2 h3 ⊢
    unfold endM
    grind (splits := 60)
end Go.Proofs.Ytibdneedfopcoaa
