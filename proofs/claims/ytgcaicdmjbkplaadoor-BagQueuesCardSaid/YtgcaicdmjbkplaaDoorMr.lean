/-
  What the functions that judge an instruction and an end compute. Conditions: as each contract says.
-/
import Derived.Test.YtgcaicdmjbkplaaDoorVa
import Derived.Test.YtgcaicdmjbkplaaDoorR1Tr
import Derived.Test.YtgcaicdmjbkplaaDoorR1Tk
set_option linter.unusedVariables false
set_option linter.unusedSimpArgs false
namespace Go.Proofs.YtgcaicdmjbkplaaDoor
open Go

structure Ins where
  kind : Int
  op : Int
  d : Int
  a : Int
  b : Int
  n : Int
  args : List Int
structure Fin4 where
  kind : Int
  a : Int
  to : Int
  el : Int
structure Blk where
  ins : List Ins
  en : Fin4
def insC (x : Ins) (v : Value) : List Value := [.int .u8 x.kind, .int .u8 x.op, .int .i64 x.d, .int .i64 x.a, .int .i64 x.b, .int .i64 x.n, v]
def insG (x : Ins) (v : Value) (l : List Value) : List Value := .int .u8 x.kind :: .int .u8 x.op :: .int .i64 x.d :: .int .i64 x.a :: .int .i64 x.b :: .int .i64 x.n :: v :: l
def endC (e : Fin4) : List Value := [.int .u8 e.kind, .int .i64 e.a, .int .i64 e.to, .int .i64 e.el]
def InsC (h : H) (cs : List Value) (x : Ins) : Prop := ∃ v, cs = insC x v ∧ IntsAt h v x.args
def BlkC (h : H) (cs : List Value) (b : Blk) : Prop := ∃ v, cs = v :: endC b.en ∧ SlAt 7 InsC h v b.ins
theorem insC_mono : Mono InsC := fun _ _ _ _ hl ⟨v, h1, h2⟩ => ⟨v, h1, h2.le hl⟩
theorem blkC_mono : Mono BlkC := fun _ _ _ _ hl ⟨v, h1, h2⟩ => ⟨v, h1, SlAt.le insC_mono hl h2⟩

def usesM (x : Ins) : List Int := if x.kind = 2 ∨ x.kind = 4 ∨ x.kind = 7 then [x.a] else if x.kind = 3 ∨ x.kind = 5 then [x.a, x.b] else if x.kind = 6 then x.args else []
def givesM (k : Int) : Bool := decide (k = 1 ∨ k = 2 ∨ k = 3 ∨ k = 4 ∨ k = 6 ∨ k = 8)
def lastM (e : Fin4) : Bool := decide (e.kind = 2 ∨ e.kind = 3)
theorem insFit (x : Ins) (v : Value) (hv : Fits .sl v) : FitsL [.int .u8, .int .u8, .int .i64, .int .i64, .int .i64, .int .i64, .sl] (insC x v) :=
  ⟨⟨_, rfl⟩, ⟨_, rfl⟩, ⟨_, rfl⟩, ⟨_, rfl⟩, ⟨_, rfl⟩, ⟨_, rfl⟩, hv, trivial⟩
theorem insGFit (x : Ins) (v : Value) (hv : Fits .sl v) {s : List Sh} {l : List Value} (h : FitsL s l) : FitsL (.int .u8 :: .int .u8 :: .int .i64 :: .int .i64 :: .int .i64 :: .int .i64 :: .sl :: s) (insG x v l) :=
  ⟨⟨_, rfl⟩, ⟨_, rfl⟩, ⟨_, rfl⟩, ⟨_, rfl⟩, ⟨_, rfl⟩, ⟨_, rfl⟩, hv, h⟩
theorem endFit (e : Fin4) : FitsL [.int .u8, .int .i64, .int .i64, .int .i64] (endC e) := ⟨⟨_, rfl⟩, ⟨_, rfl⟩, ⟨_, rfl⟩, ⟨_, rfl⟩, trivial⟩

def plainM (x : Ins) : Prop := (x.op = 0 ∨ x.kind = 3) ∧ (x.d = 0 ∨ x.kind = 1 ∨ x.kind = 2 ∨ x.kind = 3 ∨ x.kind = 4 ∨ x.kind = 6) ∧ (x.a = 0 ∨ x.kind = 2 ∨ x.kind = 4 ∨ x.kind = 3 ∨ x.kind = 5) ∧
  (x.b = 0 ∨ x.kind = 3 ∨ x.kind = 5) ∧ (x.n = 0 ∨ x.kind = 1 ∨ x.kind = 6) ∧ (x.args = [] ∨ x.kind = 6)
instance (x : Ins) : Decidable (plainM x) := by unfold plainM; infer_instance
theorem len_zero {l : List Int} {v : Value} (h : vlen v = l.length) : ((vlen v : Nat) : Int) = 0 ↔ l = [] := by
  rw [h]; cases l <;> simp <;> omega
theorem zero3 : (zeroCells Tryd.prog 3).getD [] = [.int .i64 0] := by kernel_rfl
def inR (n v : Int) : Bool := decide (0 ≤ v ∧ v < n)
def namedM (x : Ins) : List Int := usesM x ++ (if givesM x.kind then [x.d] else [])
def ofM (x : Ins) (n : Int) : Int :=
  if ¬ (1 ≤ x.kind ∧ x.kind ≤ 6) ∨ (x.kind = 3 ∧ ¬ (1 ≤ x.op ∧ x.op ≤ 7)) ∨ ¬ plainM x then 20
  else if 3 < x.args.length then 25 else if (namedM x).all (inR n) then 0 else 21
theorem usesM_len {x : Ins} (h : x.args.length ≤ 10000) : (usesM x).length ≤ 10000 := by unfold usesM; split <;> (try split) <;> (try split) <;> simp_all
theorem ofM_20 {x : Ins} {n : Int} (h : ¬ (1 ≤ x.kind ∧ x.kind ≤ 6) ∨ (x.kind = 3 ∧ ¬ (1 ≤ x.op ∧ x.op ≤ 7)) ∨ ¬ plainM x) : ofM x n = 20 := by unfold ofM; rw [if_pos h]
/-- The loop that looks at each named number. -/
theorem of_loop {R : Value → List (List Value) → H → Prop} {G : List Value} {L : Lv} {h : H} {v : Value} {l : List Int} {n : Int} {j k : Nat} (hv : IntsAt h v l) (hj : gv G j = v) (hjk : j < k) (h7 : 7 < k) (hk : G.length = k)
    (hn : gv G 7 = .int .i64 n) (hl : l.length ≤ 100000) (H21 : l.all (inR n) = false → R (Value.int .i64 21) [] h) (H0 : l.all (inR n) = true → R (Value.int .i64 0) [] h) :
    holds Tryd.prog R (.loop 0 [(.int .i64 (.lit 0))] [.int .i64] (.ite (.cmp .lss (.var k) (.len j)) (.need (.tt true) [(.cmp .geq (.var k) (.lit 0)), (.cmp .lss (.var k) (.len j))]
       (.load (.tt true) (.idx (.var j) (.var k) 1) [.int .i64]
       (.ite (.ite (.cmp .lss (.var (k + 1)) (.lit 0)) (.tt true) (.cmp .geq (.var (k + 1)) (.var 7)))
        (.done (.int .i64 (.lit 21)) [])
        (.again 0 [(.int .i64 (.op .add .i64 (.var k) (.lit 1)))]))))
       (.done (.int .i64 (.lit 0)) []))) G L h := by
  refine h_range (n := l.length) (fun i h' => h' = h ∧ ∀ m, m < i → ∀ y, l[m]? = some y → inR n y = true) (by rw [hj]; exact hv.len) hjk hk (by omega) ⟨rfl, fun m hm => absurd hm (Nat.not_lt_zero _)⟩ ?_ ?_
  · rintro i h' J hi ⟨rfl, hI⟩ hJ
    have hy : l[i]? = some l[i] := List.getElem?_eq_getElem hi
    generalize l[i] = y at hy
    have e1 : gv (G ++ [.int .i64 (i : Int)]) k = .int .i64 (i : Int) := by rw [← hk]; exact gv_last
    have e2 : gv (G ++ [.int .i64 (i : Int)]) j = v := by rw [gv_of_lt (by omega), hj]
    refine h_load [.int .i64 y] ⟨⟨_, rfl⟩, trivial⟩ (fun _ => ?_) ?_
    · simp only [PE.den, X.den, e1, e2, vi_int, Int.toNat_natCast]
      exact hv.read hy
    · have e3 : gv (G ++ [.int .i64 (i : Int)] ++ [.int .i64 y]) (k + 1) = .int .i64 y := by
        have : (G ++ [Value.int .i64 (i : Int)]).length = k + 1 := by simp [hk]
        rw [← this]; exact gv_last
      have e4 : gv (G ++ [.int .i64 (i : Int)] ++ [.int .i64 y]) 7 = .int .i64 n := by rw [gv_of_lt (by simp; omega), gv_of_lt (by omega), hn]
      have e5 : gv (G ++ [.int .i64 (i : Int)] ++ [.int .i64 y]) k = .int .i64 (i : Int) := by rw [gv_of_lt (by simp; omega), e1]
      refine h_ite (fun hc => ?_) (fun hc => ?_)
      · refine H21 ?_
        simp only [X.den, e3, e4, vb_ite, vb_bool, vi_int, cmp_lss, cmp_geq, decide_eq_true_eq] at hc
        rw [List.all_eq_false]
        refine ⟨y, List.mem_of_getElem? hy, ?_⟩
        unfold inR; grind
      · show J _ _
        simp only [SV.denL, SV.den, X.den, e5, vi_int]
        refine hJ _ ⟨rfl, fun m hm z hz => ?_⟩
        rcases Nat.lt_succ_iff_lt_or_eq.1 hm with h | rfl
        · exact hI m h z hz
        · rw [hy] at hz; cases hz
          simp only [X.den, e3, e4, vb_ite, vb_bool, vi_int, cmp_lss, cmp_geq, decide_eq_true_eq] at hc
          unfold inR; grind
  · rintro h' J ⟨rfl, hI⟩
    refine H0 ?_
    rw [List.all_eq_true]
    intro y hy
    obtain ⟨m, hm⟩ := List.getElem?_of_mem hy
    exact hI m (List.getElem?_eq_some_iff.1 hm).1 y hm
def endM (e : Fin4) (n m : Int) (vreg : Int) : Int :=
  if e.kind < 1 ∨ 3 < e.kind ∨ (e.kind = 1 ∧ e.a ≠ 0) ∨ (e.kind = 3 ∧ e.to ≠ 0) ∨ (e.kind ≠ 2 ∧ e.el ≠ 0) then 20
  else if e.kind ≠ 1 ∧ ¬ (0 ≤ e.a ∧ e.a < n) then vreg
  else if (e.kind ≠ 3 ∧ ¬ (0 ≤ e.to ∧ e.to < m)) ∨ (e.kind = 2 ∧ ¬ (0 ≤ e.el ∧ e.el < m)) then 22 else 0
end Go.Proofs.YtgcaicdmjbkplaaDoor

/-
  What a function's check computes, and the fixed facts. Conditions: as each contract says.
-/
set_option linter.unusedVariables false
set_option linter.unusedSimpArgs false
namespace Go.Proofs.YtgcaicdmjbkplaaDoor
open Go

def insF (f : Ins → Int) : Nat → List Ins → Option (Nat × Int)
  | _, [] => none
  | k, x :: l => if f x ≠ 0 then some (k, f x) else insF f (k + 1) l
def blkF (f : Ins → Int) (g : Fin4 → Int) (most : Nat) : Nat → List Blk → Int × Int × Int
  | _, [] => (0, 0, 0)
  | b, x :: l => if most < x.ins.length then (9, b, -1) else match insF f 0 x.ins with
    | some (k, e) => (e, b, k)
    | none => if g x.en ≠ 0 then (g x.en, b, x.ins.length) else blkF f g most (b + 1) l
def checkM (p n : Int) (bs : List Blk) : Int × Int × Int :=
  if p < 0 ∨ 4 < p ∨ n < p ∨ 32 < n ∨ bs.length < 1 ∨ 16 < bs.length then (2, -1, -1)
  else blkF (fun x => ofM x n) (fun e => endM e n bs.length 21) 32 0 bs
def faultV (f : Int × Int × Int) : Value := .agg #[.int .i64 f.1, .int .i64 f.2.1, .int .i64 f.2.2]
theorem insF_step {f : Ins → Int} {l : List Ins} {k : Nat} {x : Ins} (hx : l[k]? = some x) (h : insF f 0 l = insF f k (l.drop k)) :
    insF f 0 l = if f x ≠ 0 then some (k, f x) else insF f (k + 1) (l.drop (k + 1)) := by
  rw [h]
  obtain ⟨hk, rfl⟩ := List.getElem?_eq_some_iff.1 hx
  rw [List.drop_eq_getElem_cons hk]; rfl
theorem blkF_step {f : Ins → Int} {g : Fin4 → Int} {most : Nat} {l : List Blk} {k : Nat} {x : Blk} (hx : l[k]? = some x) (h : blkF f g most 0 l = blkF f g most k (l.drop k)) :
    blkF f g most 0 l = (if most < x.ins.length then (9, (k : Int), (-1 : Int)) else match insF f 0 x.ins with
    | some (j, e) => (e, (k : Int), (j : Int))
    | none => if g x.en ≠ 0 then (g x.en, (k : Int), (x.ins.length : Int)) else blkF f g most (k + 1) (l.drop (k + 1))) := by
  rw [h]
  obtain ⟨hk, rfl⟩ := List.getElem?_eq_some_iff.1 hx
  rw [List.drop_eq_getElem_cons hk]; rfl
abbrev BlksAt := SlAt 5 BlkC
theorem gv_at {G D : List Value} {i j : Nat} (h : G.length + j = i) : gv (G ++ D) i = gv D j := by
  subst h
  simp [gv, List.getD_eq_getElem?_getD, List.getElem?_append_right]
def aIns : Ins := ⟨3, 1, 1, 0, 0, 0, []⟩
def aBlk : Blk := ⟨[aIns], ⟨3, 1, 0, 0⟩⟩
theorem get_one {α : Type} {a x : α} {i : Nat} (h : [a][i]? = some x) : i = 0 ∧ x = a := by
  cases i with
  | zero => simp at h; exact ⟨rfl, h.symm⟩
  | succ i => simp at h
end Go.Proofs.YtgcaicdmjbkplaaDoor

/-
  What the document's Uses and SameInts compute. Conditions: as each contract says.
-/
set_option linter.unusedVariables false
set_option linter.unusedSimpArgs false
namespace Go.Proofs.YtgcaicdmjbkplaaDoor
open Go

theorem s40 {h : H} {u v : Value} {l m : List Int} (hu : IntsAt h u l) (hv : IntsAt h v m) (hl : l.length ≤ 100000) : CallsA Tryd.prog 40 (fun _ => [u, v]) [] h (Ret fun r h' => h' = h ∧ r = .bool (decide (l = m))) := by
  refine c40 (G := [u, v]) ⟨hu.fit, hv.fit, trivial⟩ ?_
  have hul := hu.len
  have hvl := hv.len
  refine h_ite (fun hc => ⟨rfl, rfl, ?_⟩) (fun hc => ?_)
  · simp only [holds, X.den, PE.den, SV.den, SV.denL, NK.val, NK.sv, NK.pub, gv_zero, gv_succ, vi_int, vb_bool, vlen_sl, vaddr_ptr, vb_ite, vi_ite, cmp_eql, cmp_neq, cmp_lss, cmp_leq, cmp_gtr, cmp_geq, List.map_nil, List.map_cons, List.cons_append, List.nil_append, List.flatten_nil, needs, Ret, true_and, and_true, decide_eq_true_eq, forall_const, intOp, X.den] at hc ⊢
    rw [hul, hvl] at hc
    have : l ≠ m := fun e => by rw [e] at hc; omega
    simp [this]
  · simp only [holds, X.den, PE.den, SV.den, SV.denL, NK.val, NK.sv, NK.pub, gv_zero, gv_succ, vi_int, vb_bool, vlen_sl, vaddr_ptr, vb_ite, vi_ite, cmp_eql, cmp_neq, cmp_lss, cmp_leq, cmp_gtr, cmp_geq, List.map_nil, List.map_cons, List.cons_append, List.nil_append, List.flatten_nil, needs, Ret, true_and, and_true, decide_eq_true_eq, forall_const, intOp, X.den] at hc
    rw [hul, hvl] at hc
    have hlm : l.length = m.length := by simp at hc; omega
    refine h_range (n := l.length) (fun i h' => h' = h ∧ l.take i = m.take i) hul (by omega) rfl (by omega) ⟨rfl, rfl⟩ ?_ ?_
    · rintro i h' J hi ⟨rfl, hI⟩ hJ
      have hx : l[i]? = some l[i] := List.getElem?_eq_getElem hi
      have hy : m[i]? = some m[i] := List.getElem?_eq_getElem (by omega)
      have hxy : (l[i] = m[i]) ↔ l.take (i + 1) = m.take (i + 1) := by
        rw [List.take_add_one (l := l), List.take_add_one (l := m), hI, hx, hy]
        simp only [Option.toList_some]
        exact ⟨fun e => by rw [e], fun e => List.singleton_inj.1 (List.append_cancel_left e)⟩
      generalize l[i] = x at hx hxy
      generalize m[i] = y at hy hxy
      refine h_load [.int .i64 x] ⟨⟨_, rfl⟩, trivial⟩ (fun _ => hu.read hx) ⟨fun _ => ⟨?_, ?_, trivial⟩, h_load [.int .i64 y] ⟨⟨_, rfl⟩, trivial⟩ (fun _ => hv.read hy) (h_ite (fun hc => ⟨rfl, rfl, ?_⟩) (fun hc => ?_))⟩
      · show decide ((0 : Int) ≤ (i : Int)) = true
        simp
      · show decide ((i : Int) < (vlen v : Nat)) = true
        rw [hvl]; simp; omega
      · replace hc : cmpOp .neq x y = true := hc
        rw [cmp_neq, decide_eq_true_eq] at hc
        have : l ≠ m := fun e => hc (hxy.2 (by rw [e]))
        show Value.bool false = _
        simp [this]
      · replace hc : cmpOp .neq x y = false := hc
        rw [cmp_neq, decide_eq_false_iff_not, Decidable.not_not] at hc
        exact hJ _ ⟨rfl, hxy.1 hc⟩
    · rintro h' J ⟨rfl, hI⟩
      rw [List.take_of_length_le (Nat.le_refl _), List.take_of_length_le (by omega)] at hI
      refine ⟨rfl, rfl, ?_⟩
      show Value.bool true = _
      simp [hI]
end Go.Proofs.YtgcaicdmjbkplaaDoor

/-
  What a reading of an argument says: an end, an instruction, a block. Conditions: none.
-/
set_option linter.unusedVariables false
set_option linter.unusedSimpArgs false
namespace Go.Proofs.YtgcaicdmjbkplaaDoor
open Go Go.ChangeShapes Go.WideShapes Go.ChangeAt Go.RowKit
section
variable {Hh : Type} {enc : TypeId × Value → Hh} {W : World}
theorem rd_end {cs : List Value} (h : Rd enc Tryd.prog W 34 cs) : ∃ e, cs = endC e := by
  obtain ⟨a0, _, rfl, r0, a1, _, rfl, r1, a2, _, rfl, r2, a3, _, rfl, r3, rfl⟩ := h.parts Tryd.underlying34 (by kernel_rfl)
  obtain ⟨n0, rfl, _⟩ := r0.int Tryd.underlying32
  obtain ⟨n1, rfl, _⟩ := r1.int Tryd.underlying3
  obtain ⟨n2, rfl, _⟩ := r2.int Tryd.underlying3
  obtain ⟨n3, rfl, _⟩ := r3.int Tryd.underlying3
  exact ⟨⟨n0, n1, n2, n3⟩, rfl⟩
theorem rd_ins {cs : List Value} (h : Rd enc Tryd.prog W 108 cs) : ∃ x v, cs = insC x v ∧ IntsAt (hOf W) v x.args := by
  obtain ⟨a0, _, rfl, r0, a1, _, rfl, r1, a2, _, rfl, r2, a3, _, rfl, r3, a4, _, rfl, r4, a5, _, rfl, r5, a6, _, rfl, r6, rfl⟩ := h.parts Tryd.underlying108 (by kernel_rfl)
  obtain ⟨n0, rfl, _⟩ := r0.int Tryd.underlying105
  obtain ⟨n1, rfl, _⟩ := r1.int Tryd.underlying106
  obtain ⟨n2, rfl, _⟩ := r2.int Tryd.underlying3
  obtain ⟨n3, rfl, _⟩ := r3.int Tryd.underlying3
  obtain ⟨n4, rfl, _⟩ := r4.int Tryd.underlying3
  obtain ⟨n5, rfl, _⟩ := r5.int Tryd.underlying2
  obtain ⟨v, l, rfl, hv, _⟩ := r6.ints Tryd.underlying64 Tryd.underlying3 (by kernel_rfl)
  exact ⟨⟨n0, n1, n2, n3, n4, n5, l⟩, v, rfl, hv⟩
theorem rd_blk {cs : List Value} (h : Rd enc Tryd.prog W 36 cs) : ∃ b, BlkC (hOf W) cs b := by
  obtain ⟨a0, _, rfl, r0, a1, _, rfl, r1, rfl⟩ := h.parts Tryd.underlying36 (by kernel_rfl)
  obtain ⟨v, l, rfl, hv, _⟩ := r0.slice (Rep := InsC) Tryd.underlying31 (by kernel_rfl) fun cs' hr => by obtain ⟨x, v, h1, h2⟩ := rd_ins hr; exact ⟨x, v, h1, h2⟩
  obtain ⟨e, rfl⟩ := rd_end r1
  exact ⟨⟨l, e⟩, v, by simp, hv⟩
theorem rd_blks {cs : List Value} (h : Rd enc Tryd.prog W 26 cs) : ∃ v l, cs = [v] ∧ BlksAt (hOf W) v l ∧ vcap v ≤ maxLen :=
  h.slice Tryd.underlying26 (by kernel_rfl) fun cs' hr => rd_blk hr
theorem rd_bytes {cs : List Value} (h : Rd enc Tryd.prog W 22 cs) : ∃ v l, cs = [v] ∧ BytesAt (hOf W) v l ∧ vcap v ≤ maxLen :=
  h.slice Tryd.underlying22 (by kernel_rfl) fun cs' hr => by
    obtain ⟨n, rfl, hw⟩ := hr.int Tryd.underlying5
    have : 0 ≤ n ∧ n ≤ 255 := by simpa [Lit.wf, IntKind.min, IntKind.max, IntKind.signed, IntKind.bits] using hw
    exact ⟨n, rfl, this⟩
theorem rd_spec {cs : List Value} (h : Rd enc Tryd.prog W 24 cs) : ∃ p0 p1 p2 v l, cs = [.int .u8 p0, .int .u8 p1, .int .u8 p2, v] ∧ 0 ≤ p0 ∧ 0 ≤ p1 ∧ 0 ≤ p2 ∧ BytesAt (hOf W) v l := by
  obtain ⟨a0, _, rfl, r0, a1, _, rfl, r1, a2, _, rfl, r2, a3, _, rfl, r3, rfl⟩ := h.parts Tryd.underlying24 (by kernel_rfl)
  obtain ⟨n0, rfl, w0⟩ := r0.int Tryd.underlying5
  obtain ⟨n1, rfl, w1⟩ := r1.int Tryd.underlying5
  obtain ⟨n2, rfl, w2⟩ := r2.int Tryd.underlying5
  obtain ⟨v, l, rfl, hv, _⟩ := rd_bytes r3
  have g0 : 0 ≤ n0 ∧ n0 ≤ 255 := by simpa [Lit.wf, IntKind.min, IntKind.max, IntKind.signed, IntKind.bits] using w0
  have g1 : 0 ≤ n1 ∧ n1 ≤ 255 := by simpa [Lit.wf, IntKind.min, IntKind.max, IntKind.signed, IntKind.bits] using w1
  have g2 : 0 ≤ n2 ∧ n2 ≤ 255 := by simpa [Lit.wf, IntKind.min, IntKind.max, IntKind.signed, IntKind.bits] using w2
  exact ⟨n0, n1, n2, v, l, rfl, g0.1, g1.1, g2.1, hv⟩
theorem u8r {n : Int} (w : (Lit.int .u8 n).wf = true) : 0 ≤ n ∧ n ≤ 255 := by simpa [Lit.wf, IntKind.min, IntKind.max, IntKind.signed, IntKind.bits] using w
theorem rd_func {cs : List Value} (h : Rd enc Tryd.prog W 28 cs) : ∃ p n v bs, cs = [.int .i64 p, .int .i64 n, v] ∧ BlksAt (hOf W) v bs := by
  obtain ⟨a0, _, rfl, r0, a1, _, rfl, r1, a2, _, rfl, r2, rfl⟩ := h.parts Tryd.underlying28 (by kernel_rfl)
  obtain ⟨n0, rfl, _⟩ := r0.int Tryd.underlying3
  obtain ⟨n1, rfl, _⟩ := r1.int Tryd.underlying3
  obtain ⟨v, l, rfl, hv, _⟩ := rd_blks r2
  exact ⟨n0, n1, v, l, rfl, hv⟩
end
end Go.Proofs.YtgcaicdmjbkplaaDoor

/-
  What the maker of functions computes: its numbers, its instructions. Conditions: as each contract says.
-/
set_option linter.unusedVariables false
set_option linter.unusedSimpArgs false
namespace Go.Proofs.YtgcaicdmjbkplaaDoor
open Go

def nextM (n : Int) : List Int → Int × List Int
  | [] => (0, [])
  | x :: l => (x.tmod n, l)
def InB (l : List Int) : Prop := ∀ x ∈ l, 0 ≤ x ∧ x ≤ 255
theorem BytesAt.inB {h : H} {v : Value} {l : List Int} (H : BytesAt h v l) : InB l := fun x hx => by
  obtain ⟨i, hi⟩ := List.getElem?_of_mem hx
  exact (H.read hi).2
theorem nextM_range {n : Int} {l : List Int} (hn : 0 < n) (hl : InB l) : 0 ≤ (nextM n l).1 ∧ (nextM n l).1 < n := by
  cases l with
  | nil => exact ⟨Int.le_refl _, hn⟩
  | cons x l =>
    have := (hl x (List.mem_cons_self ..)).1
    exact ⟨Int.tmod_nonneg n this, Int.tmod_lt_of_pos x hn⟩
theorem nextM_inB {n : Int} {l : List Int} (hl : InB l) : InB (nextM n l).2 := by
  cases l with
  | nil => exact hl
  | cons x l => exact fun y hy => hl y (List.mem_cons_of_mem _ hy)
/-- Wherever the one reads as the one row, the other reads as the other. -/
def NextV (v : Value) (l : List Int) (v' : Value) (l' : List Int) : Prop := ∀ g : H, BytesAt g v l → BytesAt g v' l'
theorem NextV.trans {v v' v'' : Value} {l l' l'' : List Int} (a : NextV v l v' l') (b : NextV v' l' v'' l'') : NextV v l v'' l'' := fun g h => b g (a g h)
theorem s43k {h : H} {v : Value} {l : List Int} {n : Int} (hv : BytesAt h v l) (hn : 0 < n) :
    CallsA Tryd.prog 43 (fun e => [(e 0).ptr 0, .int .i64 n]) [[v]] h (RetC fun r c h' => h' = h ∧ (∃ v', c = [v'] ∧ NextV v l v' (nextM n l).2) ∧ r = .int .i64 (nextM n l).1) := by
  refine c43k (G := [v, .int .i64 n]) ⟨hv.fit, ⟨_, rfl⟩, trivial⟩ ?_
  have hl := hv.len
  refine h_ite (fun hc => ⟨_, rfl, rfl, ⟨v, rfl, ?_⟩, ?_⟩) (fun hc => ?_)
  · simp only [holds, X.den, PE.den, SV.den, SV.denL, NK.val, NK.sv, NK.pub, gv_zero, gv_succ, vi_int, vb_bool, vlen_sl, vaddr_ptr, vb_ite, vi_ite, cmp_eql, cmp_neq, cmp_lss, cmp_leq, cmp_gtr, cmp_geq, List.map_nil, List.map_cons, List.cons_append, List.nil_append, List.flatten_nil, needs, Ret, true_and, and_true, decide_eq_true_eq, forall_const, intOp] at hc
    have : l = [] := List.eq_nil_of_length_eq_zero (by omega)
    subst this; exact fun g hg => hg
  · simp only [holds, X.den, PE.den, SV.den, SV.denL, NK.val, NK.sv, NK.pub, gv_zero, gv_succ, vi_int, vb_bool, vlen_sl, vaddr_ptr, vb_ite, vi_ite, cmp_eql, cmp_neq, cmp_lss, cmp_leq, cmp_gtr, cmp_geq, List.map_nil, List.map_cons, List.cons_append, List.nil_append, List.flatten_nil, needs, Ret, true_and, and_true, decide_eq_true_eq, forall_const, intOp] at hc ⊢
    have : l = [] := List.eq_nil_of_length_eq_zero (by omega)
    subst this; rfl
  · simp only [holds, X.den, PE.den, SV.den, SV.denL, NK.val, NK.sv, NK.pub, gv_zero, gv_succ, vi_int, vb_bool, vlen_sl, vaddr_ptr, vb_ite, vi_ite, cmp_eql, cmp_neq, cmp_lss, cmp_leq, cmp_gtr, cmp_geq, List.map_nil, List.map_cons, List.cons_append, List.nil_append, List.flatten_nil, needs, Ret, true_and, and_true, decide_eq_true_eq, forall_const, intOp, decide_eq_false_iff_not] at hc
    cases l with
    | nil => simp at hl; omega
    | cons x l =>
      obtain ⟨hr, hx0, hx1⟩ := hv.read (i := 0) (x := x) rfl
      have hlen : 1 ≤ vlen v := by rw [hl]; simp
      refine ⟨fun _ => ⟨rfl, ?_, trivial⟩, h_load [.int .u8 x] ⟨⟨_, rfl⟩, trivial⟩ (fun _ => hr) ⟨fun _ => ⟨?_, trivial⟩, fun _ => ⟨rfl, ?_, trivial⟩, ?_⟩⟩
      · simp only [holds, X.den, PE.den, SV.den, SV.denL, NK.val, NK.sv, NK.pub, gv_zero, gv_succ, vi_int, vb_bool, vlen_sl, vaddr_ptr, vb_ite, vi_ite, cmp_eql, cmp_neq, cmp_lss, cmp_leq, cmp_gtr, cmp_geq, List.map_nil, List.map_cons, List.cons_append, List.nil_append, List.flatten_nil, needs, Ret, true_and, and_true, decide_eq_true_eq, forall_const, intOp]; omega
      · simp only [holds, X.den, PE.den, SV.den, SV.denL, NK.val, NK.sv, NK.pub, gv_zero, gv_succ, vi_int, vb_bool, vlen_sl, vaddr_ptr, vb_ite, vi_ite, cmp_eql, cmp_neq, cmp_lss, cmp_leq, cmp_gtr, cmp_geq, List.map_nil, List.map_cons, List.cons_append, List.nil_append, List.flatten_nil, needs, Ret, true_and, and_true, decide_eq_true_eq, forall_const, intOp]; omega
      · simp only [holds, X.den, PE.den, SV.den, SV.denL, NK.val, NK.sv, NK.pub, gv_zero, gv_succ, vi_int, vb_bool, vlen_sl, vaddr_ptr, vb_ite, vi_ite, cmp_eql, cmp_neq, cmp_lss, cmp_leq, cmp_gtr, cmp_geq, List.map_nil, List.map_cons, List.cons_append, List.nil_append, List.flatten_nil, needs, Ret, true_and, and_true, decide_eq_true_eq, forall_const, intOp]; omega
      · rintro _ rfl
        refine ⟨_, rfl, rfl, ⟨sliceV v 1 (vlen v) 1, rfl, ?_⟩, ?_⟩
        · intro g hg
          have := hg.slice (lo := 1) (hi := (x :: l).length) (by simp) (Nat.le_refl _)
          rw [hl]
          show BytesAt g _ l
          simpa [List.take_of_length_le] using this
        · simp only [holds, X.den, PE.den, SV.den, SV.denL, NK.val, NK.sv, NK.pub, gv_zero, gv_succ, vi_int, vb_bool, vlen_sl, vaddr_ptr, vb_ite, vi_ite, cmp_eql, cmp_neq, cmp_lss, cmp_leq, cmp_gtr, cmp_geq, List.map_nil, List.map_cons, List.cons_append, List.nil_append, List.flatten_nil, needs, Ret, true_and, and_true, decide_eq_true_eq, forall_const, intOp, nextM]
          rw [wrap_i64 (by omega) (by omega)]
/-- So many numbers, one behind the other. -/
def argsM (v : Int) (l : List Int) : Nat → List Int × List Int
  | 0 => ([], l)
  | k + 1 => ((argsM v l k).1 ++ [(nextM v (argsM v l k).2).1], (nextM v (argsM v l k).2).2)
def insM (v : Int) (l0 : List Int) : Ins × List Int :=
  let a := nextM 9 l0
  let k := 1 + a.1
  if k = 1 then let b := nextM v a.2; let c := nextM 256 b.2; (⟨1, 0, b.1, 0, 0, c.1 - 3, []⟩, c.2)
  else if k = 4 then let b := nextM v a.2; let c := nextM v b.2; (⟨4, 0, b.1, c.1, 0, 0, []⟩, c.2)
  else if k = 5 then let b := nextM v a.2; let c := nextM v b.2; (⟨5, 0, 0, b.1, c.1, 0, []⟩, c.2)
  else if k = 6 then let b := nextM v a.2; let c := nextM 5 b.2; let d := nextM 4 c.2; let r := argsM v d.2 d.1.toNat; (⟨6, 0, b.1, 0, 0, c.1, r.1⟩, r.2)
  else if k = 2 ∨ k = 7 then let b := nextM v a.2; let c := nextM v b.2; (⟨2, 0, b.1, c.1, 0, 0, []⟩, c.2)
  else let b := nextM 7 a.2; let c := nextM v b.2; let d := nextM v c.2; let e := nextM v d.2; (⟨3, 1 + b.1, c.1, d.1, e.1, 0, []⟩, e.2)
def InsF : RepF Ins := fun h cs x fp => ∃ u, cs = insC x u ∧ RowF h 3 1 u (x.args.map (.int .i64)) fp
theorem wrap_u8 {n : Int} (h1 : 0 ≤ n) (h2 : n < 256) : IntKind.u8.wrap n = n := by
  simp [IntKind.wrap, IntKind.bits, IntKind.signed]; omega
/-- One number more. -/
theorem next_step {P : Program} {R : Value → List (List Value) → H → Prop} {G : List Value} {L : Lv} {h : H} {k : Out} {ks : List Nat} {key : Nat} {u : Nat} {nx : X} {v : Value} {l : List Int} {n : Int} (hP : P = Tryd.prog) (hkey : kIdx ks key = 0)
    (hu : gv G u = v) (hx : vi (nx.den G) = n) (hv : BytesAt h v l) (hn : 0 < n)
    (hk : ∀ v', NextV v l v' (nextM n l).2 → holds P R k (G ++ [v', .int .i64 (nextM n l).1]) L h) :
    holds P R (.call 43 [.loc key 0, .int .i64 nx] ks [[.val u]] [[.sl]] [(false, [.int .i64])] k) G L h := by
  subst hP
  have hc := s43k (h := h) hv hn
  refine h_call1 (Q := fun r c h' => h' = h ∧ (∃ v', c = [v'] ∧ NextV v l v' (nextM n l).2) ∧ r = .int .i64 (nextM n l).1) ?_ ?_
  · simp only [SV.denL, SV.den, hkey, hx, hu]
    exact hc
  · rintro r c h' ⟨rfl, ⟨v', rfl, hv'⟩, rfl⟩
    exact ⟨⟨(hv' _ hv).fit, trivial⟩, [.int .i64 (nextM n l).1], ⟨⟨_, rfl⟩, trivial⟩, rfl, hk v' hv'⟩
theorem argsM_inB {v : Int} {l : List Int} (hl : InB l) : ∀ k, InB (argsM v l k).2
  | 0 => hl
  | k + 1 => nextM_inB (argsM_inB hl k)
theorem argsM_len {v : Int} {l : List Int} : ∀ k, (argsM v l k).1.length = k
  | 0 => rfl
  | k + 1 => by simp [argsM, argsM_len k]
theorem KeptH.le_nil {h h' : H} (k : KeptH h h' []) : h.le h' := k.le (H.le_refl _) (fun b hb => by cases hb)
theorem s44k {h : H} {v : Value} {l : List Int} {n : Int} (hv : BytesAt h v l) (hn : 0 < n) :
    CallsA Tryd.prog 44 (fun e => [(e 0).ptr 0, .int .i64 n]) [[v]] h (RetC fun r c h' => KeptH h h' [] ∧ (∃ v', c = [v'] ∧ NextV v l v' (insM n l).2) ∧
      ∃ u fp, r = .agg (insC (insM n l).1 u).toArray ∧ InsF h' (insC (insM n l).1 u) (insM n l).1 fp ∧ Fresh h fp ∧ fp.Nodup) := by
  refine c44k (G := [v, .int .i64 n]) ⟨hv.fit, ⟨_, rfl⟩, trivial⟩ ?_
  have hb := hv.inB
  refine next_step (n := 9) rfl rfl rfl rfl hv (by omega) fun v1 hn1 => ?_
  have hv1 := hn1 _ hv
  have hk := nextM_range (n := 9) (l := l) (by omega) hb
  have hfin : ∀ {x : Ins} {l' : List Int} {v' r : Value}, insM n l = (x, l') → x.args = [] → NextV v l v' l' → r = Value.agg (insC x (.slice none 0 0)).toArray →
      RetC (fun r c h' => KeptH h h' [] ∧ (∃ v', c = [v'] ∧ NextV v l v' (insM n l).2) ∧
      ∃ u fp, r = .agg (insC (insM n l).1 u).toArray ∧ InsF h' (insC (insM n l).1 u) (insM n l).1 fp ∧ Fresh h fp ∧ fp.Nodup) r [[v']] h := by
    intro x l' v' r e ha hv' hr
    refine ⟨[v'], rfl, KeptH.refl _ _, ⟨v', rfl, by rw [e]; exact hv'⟩, .slice none 0 0, [], by rw [e]; exact hr, ⟨_, rfl, .inl ⟨rfl, ?_, rfl⟩⟩, (fun b hb => by cases hb), List.nodup_nil⟩
    rw [e]; simp [ha]
  obtain ⟨a1, ha1⟩ : ∃ a1, a1 = (nextM 9 l).1 := ⟨_, rfl⟩
  rw [← ha1] at hk ⊢
  have hkw : IntKind.u8.wrap (intOp .add .i64 1 a1) = 1 + a1 := by
    simp only [intOp]
    rw [wrap_i64 (by omega) (by omega), wrap_u8 (by omega) (by omega)]
  refine h_ite (fun hc => ?_) (fun hc => h_ite (fun hc2 => ?_) (fun hc2 => h_ite (fun hc3 => ?_) (fun hc3 => h_ite (fun hc4 => ?_) (fun hc4 => h_ite (fun hc5 => ?_) (fun hc5 => ?_)))))
  · replace hc : cmpOp .eql (IntKind.u8.wrap (intOp .add .i64 1 a1)) 1 = true := hc
    rw [hkw, cmp_eql, decide_eq_true_eq] at hc
    refine next_step (n := n) rfl rfl rfl rfl hv1 hn fun v2 hn2 => ?_
    have hv2 := hn2 _ hv1
    refine next_step (n := 256) rfl rfl rfl rfl hv2 (by omega) fun v3 hn3 => ?_
    have hr := nextM_range (n := 256) (by omega) hv2.inB
    obtain ⟨q, hq⟩ : ∃ q, q = (nextM 256 (nextM n (nextM 9 l).2).2).1 := ⟨_, rfl⟩
    rw [← hq] at hr ⊢
    refine hfin (x := ⟨1, 0, (nextM n (nextM 9 l).2).1, 0, 0, q - 3, []⟩) ?_ rfl ((hn1.trans hn2).trans hn3) ?_
    · unfold insM; simp only [← ha1]; rw [if_pos hc, ← hq]
    · show Value.agg #[.int .u8 (IntKind.u8.wrap (intOp .add .i64 1 a1)), .int .u8 0, .int .i64 _, .int .i64 0, .int .i64 0, .int .i64 (IntKind.i64.wrap (q - 3)), .slice none 0 0] = _
      rw [hkw, hc, wrap_i64 (by omega) (by omega)]; rfl
  · replace hc : cmpOp .eql (IntKind.u8.wrap (intOp .add .i64 1 a1)) 1 = false := hc
    replace hc2 : cmpOp .eql (IntKind.u8.wrap (intOp .add .i64 1 a1)) 4 = true := hc2
    rw [hkw, cmp_eql] at hc hc2
    simp only [decide_eq_true_eq, decide_eq_false_iff_not] at hc hc2
    refine next_step (n := n) rfl rfl rfl rfl hv1 hn fun v2 hn2 => ?_
    have hv2 := hn2 _ hv1
    refine next_step (n := n) rfl rfl rfl rfl hv2 hn fun v3 hn3 => ?_
    refine hfin (x := ⟨4, 0, (nextM n (nextM 9 l).2).1, (nextM n (nextM n (nextM 9 l).2).2).1, 0, 0, []⟩) ?_ rfl ((hn1.trans hn2).trans hn3) ?_
    · unfold insM; simp only [← ha1]; rw [if_neg hc, if_pos hc2]
    · show Value.agg #[.int .u8 (IntKind.u8.wrap (intOp .add .i64 1 a1)), .int .u8 0, .int .i64 _, .int .i64 _, .int .i64 0, .int .i64 0, .slice none 0 0] = _
      rw [hkw, hc2]; rfl
  · replace hc : cmpOp .eql (IntKind.u8.wrap (intOp .add .i64 1 a1)) 1 = false := hc
    replace hc2 : cmpOp .eql (IntKind.u8.wrap (intOp .add .i64 1 a1)) 4 = false := hc2
    replace hc3 : cmpOp .eql (IntKind.u8.wrap (intOp .add .i64 1 a1)) 5 = true := hc3
    rw [hkw, cmp_eql] at hc hc2 hc3
    simp only [decide_eq_true_eq, decide_eq_false_iff_not] at hc hc2 hc3
    refine next_step (n := n) rfl rfl rfl rfl hv1 hn fun v2 hn2 => ?_
    have hv2 := hn2 _ hv1
    refine next_step (n := n) rfl rfl rfl rfl hv2 hn fun v3 hn3 => ?_
    refine hfin (x := ⟨5, 0, 0, (nextM n (nextM 9 l).2).1, (nextM n (nextM n (nextM 9 l).2).2).1, 0, []⟩) ?_ rfl ((hn1.trans hn2).trans hn3) ?_
    · unfold insM; simp only [← ha1]; rw [if_neg hc, if_neg hc2, if_pos hc3]
    · show Value.agg #[.int .u8 (IntKind.u8.wrap (intOp .add .i64 1 a1)), .int .u8 0, .int .i64 0, .int .i64 _, .int .i64 _, .int .i64 0, .slice none 0 0] = _
      rw [hkw, hc3]; rfl
  · replace hc : cmpOp .eql (IntKind.u8.wrap (intOp .add .i64 1 a1)) 1 = false := hc
    replace hc2 : cmpOp .eql (IntKind.u8.wrap (intOp .add .i64 1 a1)) 4 = false := hc2
    replace hc3 : cmpOp .eql (IntKind.u8.wrap (intOp .add .i64 1 a1)) 5 = false := hc3
    replace hc4 : cmpOp .eql (IntKind.u8.wrap (intOp .add .i64 1 a1)) 6 = true := hc4
    rw [hkw, cmp_eql] at hc hc2 hc3 hc4
    simp only [decide_eq_true_eq, decide_eq_false_iff_not] at hc hc2 hc3 hc4
    refine next_step (n := n) rfl rfl rfl rfl hv1 hn fun v2 hn2 => ?_
    have hv2 := hn2 _ hv1
    refine next_step (n := 5) rfl rfl rfl rfl hv2 (by omega) fun v3 hn3 => ?_
    have hv3 := hn3 _ hv2
    refine next_step (n := 4) rfl rfl rfl rfl hv3 (by omega) fun v4 hn4 => ?_
    have hr := nextM_range (n := 4) (by omega) hv3.inB
    have hnv := ((hn1.trans hn2).trans hn3).trans hn4
    obtain ⟨m, hm⟩ : ∃ m, m = (nextM 4 (nextM 5 (nextM n (nextM 9 l).2).2).2).1 := ⟨_, rfl⟩
    obtain ⟨l4, hl4⟩ : ∃ l4, l4 = (nextM 4 (nextM 5 (nextM n (nextM 9 l).2).2).2).2 := ⟨_, rfl⟩
    rw [← hm] at hr ⊢
    rw [← hl4] at hnv
    have hI : insM n l = (⟨6, 0, (nextM n (nextM 9 l).2).1, 0, 0, (nextM 5 (nextM n (nextM 9 l).2).2).1, (argsM n l4 m.toNat).1⟩, (argsM n l4 m.toNat).2) := by
      unfold insM; simp only [← ha1]; rw [if_neg hc, if_neg hc2, if_neg hc3, if_pos hc4, ← hm, ← hl4]
    refine h_loop (fun xs h' => ∃ (i : Nat) (u v' : Value) (fp : List Nat), xs = [.int .i64 (i : Int), u, v'] ∧ (i : Int) ≤ m ∧ KeptH h h' [] ∧ NextV v l v' (argsM n l4 i).2 ∧ RowF h' 3 1 u ((argsM n l4 i).1.map (.int .i64)) fp ∧ Fresh h fp ∧ fp.Nodup)
      (fun xs h' => (m - vi (gv xs 0)).toNat) ⟨0, .slice none 0 0, v4, [], rfl, hr.1, KeptH.refl _ _, hnv, .inl ⟨rfl, rfl, rfl⟩, (fun b hb => by cases hb), List.nodup_nil⟩ ?_
    rintro xs h' J hfit ⟨i, u, v', fp, rfl, hi, hkept, hv', hu, hfr, hnd⟩ hJ
    refine h_ite (fun hc => ?_) (fun hc => ?_)
    · replace hc : cmpOp .lss (i : Int) m = true := hc
      rw [cmp_lss, decide_eq_true_eq] at hc
      have hvv := hv' _ (hv.le hkept.le_nil)
      refine next_step (n := n) (v := v') (l := (argsM n l4 i).2) rfl rfl rfl rfl hvv hn fun v5 hn5 => ?_
      have hlen := hu.row0.len
      rw [List.length_map, argsM_len] at hlen
      refine ⟨[.int .i64 (nextM n (argsM n l4 i).2).1], 1, ⟨rfl, rfl⟩, app_rowF hu rfl (by rw [zero3]; rfl) ?_ ?_⟩
      · show (vlen u + 1) * 8 ≤ _
        omega
      · intro u' h'' fp' k1 k2 k3 k4
        have hk2 : KeptH h h'' [] := fun b hb hx => by
          have e := hkept b hb hx
          rw [k3 b (fun hf => by rw [hfr b hf] at hx; cases hx) (by rw [e]; exact hx), e]
        show J [.int .i64 (intOp .add .i64 (i : Int) 1), u', v5] h''
        rw [int_add_one (n := m.toNat) (by omega) (by omega)]
        refine hJ _ _ ⟨i + 1, u', v5, fp', rfl, by omega, hk2, hv'.trans hn5, ?_, ?_, ?_⟩ ?_
        · simp only [argsM, List.map_append, List.map_cons, List.map_nil]; exact k1
        · rcases k4 with rfl | ⟨b, rfl, hb⟩
          · exact hfr
          · intro x hx
            rw [List.mem_singleton] at hx; subst hx
            exact H.le_none hkept.le_nil hb
        · rcases k4 with rfl | ⟨b, rfl, hb⟩
          · exact hnd
          · simp
        · simp only [gv_zero, vi_int]; omega
    · replace hc : cmpOp .lss (i : Int) m = false := hc
      rw [cmp_lss, decide_eq_false_iff_not] at hc
      have him : i = m.toNat := by omega
      subst him
      refine ⟨[v'], rfl, hkept, ⟨v', rfl, by rw [hI]; exact hv'⟩, u, fp, ?_, ⟨u, rfl, by rw [hI]; exact hu⟩, hfr, hnd⟩
      rw [hI]
      show Value.agg #[.int .u8 (IntKind.u8.wrap (intOp .add .i64 1 a1)), .int .u8 0, .int .i64 _, .int .i64 0, .int .i64 0, .int .i64 _, u] = _
      rw [hkw, hc4]; rfl
  · replace hc : cmpOp .eql (IntKind.u8.wrap (intOp .add .i64 1 a1)) 1 = false := hc
    replace hc2 : cmpOp .eql (IntKind.u8.wrap (intOp .add .i64 1 a1)) 4 = false := hc2
    replace hc3 : cmpOp .eql (IntKind.u8.wrap (intOp .add .i64 1 a1)) 5 = false := hc3
    replace hc4 : cmpOp .eql (IntKind.u8.wrap (intOp .add .i64 1 a1)) 6 = false := hc4
    replace hc5 : vb (if cmpOp .eql (IntKind.u8.wrap (intOp .add .i64 1 a1)) 2 = true then Value.bool (cmpOp .eql (IntKind.u8.wrap (intOp .add .i64 1 a1)) 2) else Value.bool (cmpOp .eql (IntKind.u8.wrap (intOp .add .i64 1 a1)) 7)) = true := hc5
    simp only [hkw, cmp_eql, vb_ite, vb_bool, decide_eq_true_eq, decide_eq_false_iff_not] at hc hc2 hc3 hc4 hc5
    have hc6 : 1 + a1 = 2 ∨ 1 + a1 = 7 := by grind
    refine next_step (n := n) rfl rfl rfl rfl hv1 hn fun v2 hn2 => ?_
    have hv2 := hn2 _ hv1
    refine next_step (n := n) rfl rfl rfl rfl hv2 hn fun v3 hn3 => ?_
    refine hfin (x := ⟨2, 0, (nextM n (nextM 9 l).2).1, (nextM n (nextM n (nextM 9 l).2).2).1, 0, 0, []⟩) ?_ rfl ((hn1.trans hn2).trans hn3) rfl
    unfold insM; simp only [← ha1]; rw [if_neg hc, if_neg hc2, if_neg hc3, if_neg hc4, if_pos hc6]
  · replace hc : cmpOp .eql (IntKind.u8.wrap (intOp .add .i64 1 a1)) 1 = false := hc
    replace hc2 : cmpOp .eql (IntKind.u8.wrap (intOp .add .i64 1 a1)) 4 = false := hc2
    replace hc3 : cmpOp .eql (IntKind.u8.wrap (intOp .add .i64 1 a1)) 5 = false := hc3
    replace hc4 : cmpOp .eql (IntKind.u8.wrap (intOp .add .i64 1 a1)) 6 = false := hc4
    replace hc5 : vb (if cmpOp .eql (IntKind.u8.wrap (intOp .add .i64 1 a1)) 2 = true then Value.bool (cmpOp .eql (IntKind.u8.wrap (intOp .add .i64 1 a1)) 2) else Value.bool (cmpOp .eql (IntKind.u8.wrap (intOp .add .i64 1 a1)) 7)) = false := hc5
    simp only [hkw, cmp_eql, vb_ite, vb_bool, decide_eq_true_eq, decide_eq_false_iff_not] at hc hc2 hc3 hc4 hc5
    have hc6 : ¬ (1 + a1 = 2 ∨ 1 + a1 = 7) := by grind
    refine next_step (n := 7) rfl rfl rfl rfl hv1 (by omega) fun v2 hn2 => ?_
    have hv2 := hn2 _ hv1
    have hr := nextM_range (n := 7) (by omega) hv1.inB
    refine next_step (n := n) rfl rfl rfl rfl hv2 hn fun v3 hn3 => ?_
    have hv3 := hn3 _ hv2
    refine next_step (n := n) rfl rfl rfl rfl hv3 hn fun v4 hn4 => ?_
    have hv4 := hn4 _ hv3
    refine next_step (n := n) rfl rfl rfl rfl hv4 hn fun v5 hn5 => ?_
    obtain ⟨q, hq⟩ : ∃ q, q = (nextM 7 (nextM 9 l).2).1 := ⟨_, rfl⟩
    rw [← hq] at hr ⊢
    have hqw : IntKind.u8.wrap (intOp .add .i64 1 q) = 1 + q := by
      simp only [intOp]
      rw [wrap_i64 (by omega) (by omega), wrap_u8 (by omega) (by omega)]
    refine hfin (x := ⟨3, 1 + q, (nextM n (nextM 7 (nextM 9 l).2).2).1, (nextM n (nextM n (nextM 7 (nextM 9 l).2).2).2).1, (nextM n (nextM n (nextM n (nextM 7 (nextM 9 l).2).2).2).2).1, 0, []⟩) ?_ rfl ((((hn1.trans hn2).trans hn3).trans hn4).trans hn5) ?_
    · unfold insM; simp only [← ha1]; rw [if_neg hc, if_neg hc2, if_neg hc3, if_neg hc4, if_neg hc6, ← hq]
    · show Value.agg #[.int .u8 3, .int .u8 (IntKind.u8.wrap (intOp .add .i64 1 q)), .int .i64 _, .int .i64 _, .int .i64 _, .int .i64 0, .slice none 0 0] = _
      rw [hqw]; rfl
end Go.Proofs.YtgcaicdmjbkplaaDoor

/-
  What Made makes: a function of small numbers, in rows of its own. Conditions: as the contract says.
-/
set_option linter.unusedVariables false
set_option linter.unusedSimpArgs false
namespace Go.Proofs.YtgcaicdmjbkplaaDoor
open Go

def BlkF : RepF Blk := fun h cs b fp => ∃ u, cs = u :: endC b.en ∧ SlF 108 7 InsF h u b.ins fp
theorem insF_good : GoodF InsF :=
  ⟨fun ha ⟨u, h1, h2⟩ => ⟨u, h1, h2.agree ha⟩, fun ⟨u, h1, h2⟩ => h2.live⟩
theorem blkF_good : GoodF BlkF :=
  ⟨fun ha ⟨u, h1, h2⟩ => ⟨u, h1, h2.agree insF_good ha⟩, fun ⟨u, h1, h2⟩ => h2.live insF_good⟩
abbrev OwnBlks (h : H) (v : Value) (bs : List Blk) (fp : List Nat) : Prop := SlF 36 5 BlkF h v bs fp
theorem rowF_ints {h : H} {e : TypeId} {u : Value} {l : List Int} {fp : List Nat} (k : RowF h e 1 u (l.map (.int .i64)) fp) : IntsAt h u l := by
  refine ⟨k.row0.fit, by have := k.row0.len; simp at this; exact this.symm, fun i x hi => ⟨_, rfl, k.row0.reads fun j u hj => ?_⟩⟩
  cases j with
  | zero => simp at hj; subst hj; simp [hi]
  | succ j => simp at hj
theorem insF_at {h : H} {cs : List Value} {x : Ins} {fp : List Nat} (k : InsF h cs x fp) : InsC h cs x := by
  obtain ⟨u, h1, h2⟩ := k; exact ⟨u, h1, rowF_ints h2⟩
theorem blkF_at {h : H} {cs : List Value} {x : Blk} {fp : List Nat} (k : BlkF h cs x fp) : BlkC h cs x := by
  obtain ⟨u, h1, h2⟩ := k; exact ⟨u, h1, h2.at (by omega) insF_at⟩
theorem OwnBlks.at {h : H} {v : Value} {bs : List Blk} {fp : List Nat} (k : OwnBlks h v bs fp) : BlksAt h v bs := SlF.at (by omega) blkF_at k

def insLoopM (v : Int) (l : List Int) : Nat → List Ins × List Int
  | 0 => ([], l)
  | k + 1 => ((insLoopM v l k).1 ++ [(insM v (insLoopM v l k).2).1], (insM v (insLoopM v l k).2).2)
def endMk (v n : Int) (l : List Int) : Fin4 × List Int :=
  let a := nextM 4 l
  if a.1 = 1 then let b := nextM n a.2; (⟨1, 0, b.1, 0⟩, b.2)
  else if a.1 = 2 ∨ a.1 = 3 then let b := nextM v a.2; let c := nextM n b.2; let d := nextM n c.2; (⟨2, b.1, c.1, d.1⟩, d.2)
  else let b := nextM v a.2; (⟨3, b.1, 0, 0⟩, b.2)
def blkM (v n : Int) (l : List Int) : Blk × List Int :=
  let a := nextM 9 l
  let r := insLoopM v a.2 a.1.toNat
  let e := endMk v n r.2
  (⟨r.1, e.1⟩, e.2)
def blksM (v n : Int) (l : List Int) : Nat → List Blk × List Int
  | 0 => ([], l)
  | k + 1 => ((blksM v n l k).1 ++ [(blkM v n (blksM v n l k).2).1], (blkM v n (blksM v n l k).2).2)
def madeP (p0 : Int) : Int := p0.tmod 5
def madeV (p0 p1 : Int) : Int := max 1 (madeP p0) + p1.tmod 28
def madeN (p2 : Int) : Int := 1 + p2.tmod 7
def madeB (p0 p1 p2 : Int) (l : List Int) : List Blk := (blksM (madeV p0 p1) (madeN p2) l (madeN p2).toNat).1
theorem insLoopM_len {v : Int} {l : List Int} : ∀ k, (insLoopM v l k).1.length = k
  | 0 => rfl
  | k + 1 => by simp [insLoopM, insLoopM_len k]
theorem blksM_len {v n : Int} {l : List Int} : ∀ k, (blksM v n l k).1.length = k
  | 0 => rfl
  | k + 1 => by simp [blksM, blksM_len k]
def VX : X := .op .add .i64 (.ite (.cmp .gtr (.lit 1) (.conv .i64 (.op .rem .u8 (.var 0) (.lit 5)))) (.lit 1) (.conv .i64 (.op .rem .u8 (.var 0) (.lit 5)))) (.conv .i64 (.op .rem .u8 (.var 1) (.lit 28)))
def NX : X := .op .add .i64 (.lit 1) (.conv .i64 (.op .rem .u8 (.var 2) (.lit 7)))
theorem tmod_range {a : Int} {n : Int} (h0 : 0 ≤ a) (hn : 0 < n) : 0 ≤ a.tmod n ∧ a.tmod n < n := ⟨Int.tmod_nonneg n h0, Int.tmod_lt_of_pos a hn⟩
theorem px_val {G : List Value} {p0 : Int} (e0 : gv G 0 = .int .u8 p0) (h0 : 0 ≤ p0) : vi ((X.conv .i64 (.op .rem .u8 (.var 0) (.lit 5))).den G) = madeP p0 := by
  have := tmod_range (n := 5) h0 (by omega)
  simp only [X.den, e0, vi_int, intOp, madeP]
  rw [wrap_i64 (by omega) (by omega)]
theorem vx_val {G : List Value} {p0 p1 : Int} (e0 : gv G 0 = .int .u8 p0) (e1 : gv G 1 = .int .u8 p1) (h0 : 0 ≤ p0) (h1 : 0 ≤ p1) : vi (VX.den G) = madeV p0 p1 := by
  have a0 := tmod_range (n := 5) h0 (by omega)
  have a1 := tmod_range (n := 28) h1 (by omega)
  simp only [VX, X.den, e0, e1, vi_int, intOp, vb_bool, vi_ite, cmp_gtr, decide_eq_true_eq, madeV, madeP]
  rw [wrap_i64 (n := p0.tmod 5) (by omega) (by omega), wrap_i64 (n := p1.tmod 28) (by omega) (by omega)]
  split <;> rw [wrap_i64 (by omega) (by omega)] <;> omega
theorem nx_val {G : List Value} {p2 : Int} (e2 : gv G 2 = .int .u8 p2) (h2 : 0 ≤ p2) : vi (NX.den G) = madeN p2 := by
  have a1 := tmod_range (n := 7) h2 (by omega)
  simp only [NX, X.den, e2, vi_int, intOp, madeN]
  rw [wrap_i64 (n := p2.tmod 7) (by omega) (by omega), wrap_i64 (by omega) (by omega)]
theorem madeN_range {p2 : Int} (h2 : 0 ≤ p2) : 1 ≤ madeN p2 ∧ madeN p2 ≤ 7 := by
  have := tmod_range (n := 7) h2 (by omega); unfold madeN; omega
theorem madeP_range {p0 : Int} (h0 : 0 ≤ p0) : 0 ≤ madeP p0 ∧ madeP p0 ≤ 4 := by
  have := tmod_range (n := 5) h0 (by omega); unfold madeP; omega
theorem madeV_range {p0 p1 : Int} (h0 : 0 ≤ p0) (h1 : 0 ≤ p1) : 1 ≤ madeV p0 p1 ∧ madeV p0 p1 ≤ 31 ∧ madeP p0 ≤ madeV p0 p1 := by
  have a0 := madeP_range h0
  have a1 := tmod_range (n := 28) h1 (by omega)
  unfold madeV; omega
/-- One instruction more. -/
theorem ins_step {P : Program} {R : Value → List (List Value) → H → Prop} {G : List Value} {L : Lv} {h : H} {k : Out} {ks : List Nat} {key : Nat} {u : Nat} {nx : X} {v : Value} {l : List Int} {n : Int} (hP : P = Tryd.prog) (hkey : kIdx ks key = 0)
    (hu : gv G u = v) (hx : vi (nx.den G) = n) (hv : BytesAt h v l) (hn : 0 < n)
    (hk : ∀ v' a fp h', NextV v l v' (insM n l).2 → KeptH h h' [] → InsF h' (insC (insM n l).1 a) (insM n l).1 fp → Fresh h fp → fp.Nodup → holds P R k (G ++ (v' :: insC (insM n l).1 a)) L h') :
    holds P R (.call 44 [.loc key 0, .int .i64 nx] ks [[.val u]] [[.sl]] [(true, [.int .u8, .int .u8, .int .i64, .int .i64, .int .i64, .int .i64, .sl])] k) G L h := by
  subst hP
  have hc := s44k (h := h) hv hn
  refine h_call1 (Q := fun r c h' => KeptH h h' [] ∧ (∃ v', c = [v'] ∧ NextV v l v' (insM n l).2) ∧
      ∃ u fp, r = .agg (insC (insM n l).1 u).toArray ∧ InsF h' (insC (insM n l).1 u) (insM n l).1 fp ∧ Fresh h fp ∧ fp.Nodup) ?_ ?_
  · simp only [SV.denL, SV.den, hkey, hx, hu]
    exact hc
  · rintro r c h' ⟨hkept, ⟨v', rfl, hv'⟩, a, fp, rfl, hI, hf, hnd⟩
    refine ⟨⟨(hv' _ hv).fit, trivial⟩, insC (insM n l).1 a, insFit _ _ ?_, rfl, hk v' a fp h' hv' hkept hI hf hnd⟩
    obtain ⟨u', e1, e2⟩ := hI
    have : a = u' := by simp only [insC, List.cons.injEq] at e1; exact e1.2.2.2.2.2.2.1
    rw [this]; exact e2.row0.fit
theorem fresh_append {h : H} {f g : List Nat} (a : Fresh h f) (b : Fresh h g) : Fresh h (f ++ g) := fun x hx => (List.mem_append.1 hx).elim (a x) (b x)
theorem nodup_app {f g : List Nat} (a : f.Nodup) (b : g.Nodup) (c : ∀ x ∈ f, x ∉ g) : (f ++ g).Nodup := List.nodup_append.2 ⟨a, b, fun x hx y hy e => c x hx (e ▸ hy)⟩
theorem fresh_apart {h : H} {f g : List Nat} (a : Live h f) (b : Fresh h g) : ∀ x ∈ f, x ∉ g := fun x hx hg => by have := a x hx; rw [b x hg] at this; cases this
theorem KeptH.trans_nil {h h' h'' : H} {f : List Nat} (a : KeptH h h' []) (b : KeptH h' h'' f) (hf : Fresh h f) : KeptH h h'' [] := fun x _ hx => by
  have e := a x (by simp) hx
  rw [b x (fun hb => by rw [hf x hb] at hx; cases hx) (by rw [e]; exact hx), e]
theorem zero46 : ((zeroCells Tryd.prog 108).getD []).length = 7 := by kernel_rfl
theorem zero41 : ((zeroCells Tryd.prog 36).getD []).length = 5 := by kernel_rfl
theorem s11 {h : H} {v : Value} {l : List Int} {p0 p1 p2 : Int} (hv : BytesAt h v l) (h0 : 0 ≤ p0) (h1 : 0 ≤ p1) (h2 : 0 ≤ p2) :
    CallsA Tryd.prog 11 (fun _ => [.agg #[.int .u8 p0, .int .u8 p1, .int .u8 p2, v]]) [] h (Ret fun r h' => KeptH h h' [] ∧
      ∃ u fp, r = .agg #[.int .i64 (madeP p0), .int .i64 (madeV p0 p1), u] ∧ OwnBlks h' u (madeB p0 p1 p2 l) fp ∧ Fresh h fp ∧ fp.Nodup) := by
  refine c11 (G := [.int .u8 p0, .int .u8 p1, .int .u8 p2, v]) ⟨⟨_, rfl⟩, ⟨_, rfl⟩, ⟨_, rfl⟩, hv.fit, trivial⟩ ?_
  have hV := madeV_range h0 h1
  have hN := madeN_range h2
  obtain ⟨V, hVd⟩ : ∃ V, V = madeV p0 p1 := ⟨_, rfl⟩
  obtain ⟨N, hNd⟩ : ∃ N, N = madeN p2 := ⟨_, rfl⟩
  rw [← hVd] at hV
  rw [← hNd] at hN
  have hB : madeB p0 p1 p2 l = (blksM V N l N.toNat).1 := by unfold madeB; rw [← hVd, ← hNd]
  refine h_loop (fun xs h' => ∃ (i : Nat) (v' u : Value) (fp : List Nat), xs = [.int .i64 (i : Int), v', u] ∧ (i : Int) ≤ N ∧ KeptH h h' [] ∧ NextV v l v' (blksM V N l i).2 ∧ OwnBlks h' u (blksM V N l i).1 fp ∧ Fresh h fp ∧ fp.Nodup)
      (fun xs h' => (N - vi (gv xs 0)).toNat) ⟨0, v, .slice none 0 0, [], rfl, by omega, KeptH.refl _ _, fun g hg => hg, SlF.nil, (fun b hb => by cases hb), List.nodup_nil⟩ ?_
  rintro xs h' J hfit ⟨i, v', u, fp, rfl, hi, hkept, hv', hu, hfr, hnd⟩ hJ
  have hnx : vi (NX.den ([.int .u8 p0, .int .u8 p1, .int .u8 p2, v] ++ [.int .i64 (i : Int), v', u])) = N := by rw [hNd]; exact nx_val (p2 := p2) rfl h2
  refine h_ite (fun hc => ?_) (fun hc => ?_)
  · replace hc : cmpOp .lss (i : Int) (vi (NX.den ([.int .u8 p0, .int .u8 p1, .int .u8 p2, v] ++ [.int .i64 (i : Int), v', u]))) = true := hc
    rw [hnx, cmp_lss, decide_eq_true_eq] at hc
    have hvv := hv' _ (hv.le hkept.le_nil)
    refine next_step (n := 9) (v := v') (l := (blksM V N l i).2) rfl rfl rfl rfl hvv (by omega) fun v1 hn1 => ?_
    have hr := nextM_range (n := 9) (by omega) hvv.inB
    obtain ⟨li, hli⟩ : ∃ li, li = (blksM V N l i).2 := ⟨_, rfl⟩
    rw [← hli] at hv' hvv hn1 hr ⊢
    obtain ⟨m, hm⟩ : ∃ m, m = (nextM 9 li).1 := ⟨_, rfl⟩
    obtain ⟨l1, hl1⟩ : ∃ l1, l1 = (nextM 9 li).2 := ⟨_, rfl⟩
    rw [← hm] at hr ⊢
    rw [← hl1] at hn1
    have hn1' := hv'.trans hn1
    have hul := hu.len (by omega)
    rw [blksM_len] at hul
    -- the instructions
    refine h_loop (fun xs h'' => ∃ (j : Nat) (w v2 : Value) (f : List Nat), xs = [.int .i64 (j : Int), w, v2] ∧ (j : Int) ≤ m ∧ KeptH h h'' [] ∧ NextV v l v2 (insLoopM V l1 j).2 ∧ OwnBlks h'' u (blksM V N l i).1 fp ∧
        SlF 108 7 InsF h'' w (insLoopM V l1 j).1 f ∧ Fresh h f ∧ (fp ++ f).Nodup)
      (fun xs h' => (m - vi (gv xs 0)).toNat) ⟨0, .slice none 0 0, v1, [], rfl, by omega, hkept, hn1', hu, SlF.nil, (fun b hb => by cases hb), by simpa using hnd⟩ ?_
    rintro xs h3 J3 hfit3 ⟨j, w, v2, f, rfl, hj, hkept3, hv2, hu3, hw, hfr3, hnd3⟩ hJ3
    refine h_ite (fun hc3 => ?_) (fun hc3 => ?_)
    · replace hc3 : cmpOp .lss (j : Int) m = true := hc3
      rw [cmp_lss, decide_eq_true_eq] at hc3
      have hb2 := hv2 _ (hv.le hkept3.le_nil)
      refine ins_step (n := V) (v := v2) (l := (insLoopM V l1 j).2) rfl rfl rfl ?_ hb2 (by omega) fun v4 a g h4 hn4 hk4 hI hg hgn => ?_
      · rw [hVd]; exact vx_val (p0 := p0) (p1 := p1) rfl rfl h0 h1
      have hwl := hw.len (by omega)
      rw [insLoopM_len] at hwl
      have hlw := hw.live insF_good
      have hlu := hu3.live blkF_good
      have hu4 := hu3.agree blkF_good (hk4.agree hlu (fun b _ => by simp))
      have hw4 := hw.agree insF_good (hk4.agree hlw (fun b _ => by simp))
      obtain ⟨n1, n2, n3⟩ := List.nodup_append.1 hnd3
      have hap : ∀ x ∈ f, x ∉ g := fresh_apart hlw hg
      have hap2 : ∀ x ∈ fp, x ∉ g := fresh_apart hlu hg
      refine ⟨insC (insM V (insLoopM V l1 j).2).1 a, 1, ⟨rfl, rfl⟩, app_slF insF_good (by omega) hw4 rfl hI (nodup_app n2 hgn hap) zero46 ?_ ?_⟩
      · rw [insLoopM_len]; omega
      · intro w' h5 f' k1 k2 k3 k4
        have hk5 : KeptH h h5 [] := KeptH.trans_nil (KeptH.trans_nil hkept3 hk4 (fun b hb => by cases hb)) k3 hfr3
        show J3 [.int .i64 (intOp .add .i64 (j : Int) 1), w', v4] h5
        rw [int_add_one (n := m.toNat) (by omega) (by omega)]
        have hlu4 := hu4.live blkF_good
        have hfpf : ∀ b ∈ fp, b ∉ f := fun b hb hf => n3 b hb b hf rfl
        have hg0 : Fresh h g := fun b hb => H.le_none hkept3.le_nil (hg b hb)
        refine hJ3 _ _ ⟨j + 1, w', v4, f', rfl, by omega, hk5, hv2.trans hn4, hu4.agree blkF_good (k3.agree hlu4 hfpf), k1, fun b hb => ?_, nodup_app n1 k2 fun b hb hf' => ?_⟩ ?_
        · rcases k4 b hb with q | q | q
          · exact hfr3 b q
          · exact hg0 b q
          · exact H.le_none (hkept3.le_nil.trans hk4.le_nil) q
        · rcases k4 b hf' with q | q | q
          · exact hfpf b hb q
          · exact hap2 b hb q
          · have := hlu4 b hb; rw [q] at this; cases this
        · simp only [gv_zero, vi_int]; omega
    · replace hc3 : cmpOp .lss (j : Int) m = false := hc3
      rw [cmp_lss, decide_eq_false_iff_not] at hc3
      have hjm : j = m.toNat := by omega
      subst hjm
      have hb2 := hv2 _ (hv.le hkept3.le_nil)
      obtain ⟨l2, hl2⟩ : ∃ l2, l2 = (insLoopM V l1 m.toNat).2 := ⟨_, rfl⟩
      obtain ⟨is, his⟩ : ∃ is, is = (insLoopM V l1 m.toNat).1 := ⟨_, rfl⟩
      rw [← hl2] at hv2 hb2
      rw [← his] at hw
      have hlu := hu3.live blkF_good
      have hend : ∀ (e : Fin4) (l' : List Int) (v'' : Value), endMk V N l2 = (e, l') → NextV v l v'' l' →
          AppSpec h3 36 5 56 ((zeroCells Tryd.prog 36).getD []) u (w :: endC e) 1 fun vv h'' => J [.int .i64 (intOp .add .i64 (i : Int) 1), v'', vv] h'' := by
        intro e l' v'' he hnv
        have hblk : blkM V N li = (⟨is, e⟩, l') := by
          unfold blkM; simp only [← hm, ← hl1, ← hl2, ← his, he]
        refine app_slF blkF_good (x := ⟨is, e⟩) (by omega) hu3 rfl ⟨w, rfl, hw⟩ hnd3 zero41 ?_ ?_
        · rw [blksM_len]; omega
        · intro u' h5 fp' k1 k2 k3 k4
          have hk5 : KeptH h h5 [] := KeptH.trans_nil hkept3 k3 hfr
          rw [int_add_one (n := N.toNat) (by omega) (by omega)]
          refine hJ _ _ ⟨i + 1, v'', u', fp', rfl, by omega, hk5, ?_, ?_, fun b hb => ?_, k2⟩ ?_
          · simp only [blksM, ← hli, hblk]; exact hnv
          · simp only [blksM, ← hli, hblk]; exact k1
          · rcases k4 b hb with q | q | q
            · exact hfr b q
            · exact hfr3 b q
            · exact H.le_none hkept3.le_nil q
          · simp only [gv_zero, vi_int]; omega
      refine next_step (n := 4) (v := v2) (l := l2) rfl rfl rfl rfl hb2 (by omega) fun v3 hn3 => ?_
      have hb3 := hn3 _ hb2
      have hr3 := nextM_range (n := 4) (by omega) hb2.inB
      obtain ⟨q, hq⟩ : ∃ q, q = (nextM 4 l2).1 := ⟨_, rfl⟩
      rw [← hq] at hr3 ⊢
      refine h_ite (fun hc4 => ?_) (fun hc4 => h_ite (fun hc5 => ?_) (fun hc5 => ?_))
      · replace hc4 : cmpOp .eql q 1 = true := hc4
        rw [cmp_eql, decide_eq_true_eq] at hc4
        refine next_step (n := N) rfl rfl rfl ?_ hb3 (by omega) fun v4 hn4 => ?_
        · rw [hNd]; exact nx_val (p2 := p2) rfl h2
        · refine ⟨w :: endC ⟨1, 0, (nextM N (nextM 4 l2).2).1, 0⟩, 1, ⟨rfl, rfl⟩, hend _ _ _ ?_ ((hv2.trans hn3).trans hn4)⟩
          unfold endMk; simp only [← hq]; rw [if_pos hc4]
      · replace hc4 : cmpOp .eql q 1 = false := hc4
        replace hc5 : vb (if cmpOp .eql q 2 = true then Value.bool (cmpOp .eql q 2) else Value.bool (cmpOp .eql q 3)) = true := hc5
        simp only [cmp_eql, vb_ite, vb_bool, decide_eq_true_eq, decide_eq_false_iff_not] at hc4 hc5
        have hc6 : q = 2 ∨ q = 3 := by grind
        refine next_step (n := V) rfl rfl rfl ?_ hb3 (by omega) fun v4 hn4 => ?_
        · rw [hVd]; exact vx_val (p0 := p0) (p1 := p1) rfl rfl h0 h1
        have hb4 := hn4 _ hb3
        refine next_step (n := N) rfl rfl rfl ?_ hb4 (by omega) fun v5 hn5 => ?_
        · rw [hNd]; exact nx_val (p2 := p2) rfl h2
        have hb5 := hn5 _ hb4
        refine next_step (n := N) rfl rfl rfl ?_ hb5 (by omega) fun v6 hn6 => ?_
        · rw [hNd]; exact nx_val (p2 := p2) rfl h2
        refine ⟨w :: endC ⟨2, (nextM V (nextM 4 l2).2).1, (nextM N (nextM V (nextM 4 l2).2).2).1, (nextM N (nextM N (nextM V (nextM 4 l2).2).2).2).1⟩, 1, ⟨rfl, rfl⟩, hend _ _ _ ?_ ((((hv2.trans hn3).trans hn4).trans hn5).trans hn6)⟩
        unfold endMk; simp only [← hq]; rw [if_neg hc4, if_pos hc6]
      · replace hc4 : cmpOp .eql q 1 = false := hc4
        replace hc5 : vb (if cmpOp .eql q 2 = true then Value.bool (cmpOp .eql q 2) else Value.bool (cmpOp .eql q 3)) = false := hc5
        simp only [cmp_eql, vb_ite, vb_bool, decide_eq_true_eq, decide_eq_false_iff_not] at hc4 hc5
        have hc6 : ¬ (q = 2 ∨ q = 3) := by grind
        refine next_step (n := V) rfl rfl rfl ?_ hb3 (by omega) fun v4 hn4 => ?_
        · rw [hVd]; exact vx_val (p0 := p0) (p1 := p1) rfl rfl h0 h1
        refine ⟨w :: endC ⟨3, (nextM V (nextM 4 l2).2).1, 0, 0⟩, 1, ⟨rfl, rfl⟩, hend _ _ _ ?_ ((hv2.trans hn3).trans hn4)⟩
        unfold endMk; simp only [← hq]; rw [if_neg hc4, if_neg hc6]
  · replace hc : cmpOp .lss (i : Int) (vi (NX.den ([.int .u8 p0, .int .u8 p1, .int .u8 p2, v] ++ [.int .i64 (i : Int), v', u]))) = false := hc
    rw [hnx, cmp_lss, decide_eq_false_iff_not] at hc
    have hin : i = N.toNat := by omega
    subst hin
    refine ⟨rfl, hkept, u, fp, ?_, by rw [hB]; exact hu, hfr, hnd⟩
    have e1 := px_val (G := [.int .u8 p0, .int .u8 p1, .int .u8 p2, v] ++ [.int .i64 ((N.toNat : Nat) : Int), v', u]) (p0 := p0) rfl h0
    have e2 := vx_val (G := [.int .u8 p0, .int .u8 p1, .int .u8 p2, v] ++ [.int .i64 ((N.toNat : Nat) : Int), v', u]) (p0 := p0) (p1 := p1) rfl rfl h0 h1
    rw [← e1, ← e2]; rfl
end Go.Proofs.YtgcaicdmjbkplaaDoor

/-
  What Made makes is right: the check finds nothing. Conditions: the numbers come from bytes.
-/
set_option linter.unusedVariables false
set_option linter.unusedSimpArgs false
namespace Go.Proofs.YtgcaicdmjbkplaaDoor
open Go

theorem insF_ok {f : Ins → Int} : ∀ {l : List Ins} {k : Nat}, (∀ x ∈ l, f x = 0) → insF f k l = none
  | [], _, _ => rfl
  | x :: l, k, h => by
    unfold insF
    rw [if_neg (by rw [h x (List.mem_cons_self ..)]; omega)]
    exact insF_ok fun y hy => h y (List.mem_cons_of_mem _ hy)
theorem blkF_ok {f : Ins → Int} {g : Fin4 → Int} {most : Nat} : ∀ {l : List Blk} {k : Nat}, (∀ b ∈ l, b.ins.length ≤ most ∧ (∀ x ∈ b.ins, f x = 0) ∧ g b.en = 0) → blkF f g most k l = (0, 0, 0)
  | [], _, _ => rfl
  | x :: l, k, h => by
    obtain ⟨h1, h2, h3⟩ := h x (List.mem_cons_self ..)
    unfold blkF
    rw [if_neg (by omega), insF_ok h2]
    simp only
    rw [if_neg (by omega)]
    exact blkF_ok fun y hy => h y (List.mem_cons_of_mem _ hy)
theorem argsM_all {v : Int} {l : List Int} (hv : 0 < v) (hl : InB l) : ∀ k, ∀ x ∈ (argsM v l k).1, 0 ≤ x ∧ x < v
  | 0, x, h => by cases h
  | k + 1, x, h => by
    simp only [argsM] at h
    rcases List.mem_append.1 h with h | h
    · exact argsM_all hv hl k x h
    · rw [List.mem_singleton] at h
      rw [h]; exact nextM_range hv (argsM_inB hl k)
theorem inR_of {n v : Int} (h : 0 ≤ v ∧ v < n) : inR n v = true := by unfold inR; simpa using h
/-- An instruction that is made is right, over so many vregs or more. -/
theorem insM_ok {v w : Int} {l : List Int} (hv : 0 < v) (hw : v ≤ w) (hl : InB l) : ofM (insM v l).1 w = 0 := by
  have a := nextM_range (n := 9) (by omega) hl
  have la := nextM_inB (n := 9) hl
  have key : ∀ x : Ins, (1 ≤ x.kind ∧ x.kind ≤ 6) → (x.kind = 3 → 1 ≤ x.op ∧ x.op ≤ 7) → plainM x → x.args.length ≤ 3 → (∀ y ∈ namedM x, 0 ≤ y ∧ y < v) → ofM x w = 0 := by
    intro x h1 h2 h3 h4 h5
    unfold ofM
    rw [if_neg (by grind), if_neg (by omega), if_pos]
    rw [List.all_eq_true]
    intro y hy
    have := h5 y hy
    exact inR_of ⟨this.1, by omega⟩
  unfold insM
  obtain ⟨b, hb⟩ : ∃ b, b = nextM 9 l := ⟨_, rfl⟩
  rw [← hb] at a la ⊢
  simp only
  have r := fun {n : Int} {l : List Int} => @nextM_range n l
  split
  · have r1 := nextM_range hv la
    refine key _ (by simp) (by simp) (by simp [plainM]) (by simp) ?_
    intro y hy
    simp [namedM, usesM, givesM] at hy
    subst hy; exact r1
  · split
    · have r1 := nextM_range hv la
      have r2 := nextM_range hv (nextM_inB (n := v) la)
      refine key _ (by simp) (by simp) (by simp [plainM]) (by simp) ?_
      intro y hy
      simp [namedM, usesM, givesM] at hy
      rcases hy with rfl | rfl <;> assumption
    · split
      · have r1 := nextM_range hv la
        have r2 := nextM_range hv (nextM_inB (n := v) la)
        refine key _ (by simp) (by simp) (by simp [plainM]) (by simp) ?_
        intro y hy
        simp [namedM, usesM, givesM] at hy
        rcases hy with rfl | rfl <;> assumption
      · split
        · have r1 := nextM_range hv la
          have l1 := nextM_inB (n := v) la
          have l2 := nextM_inB (n := 5) l1
          have r3 := nextM_range (n := 4) (by omega) l2
          have l3 := nextM_inB (n := 4) l2
          refine key _ (by simp) (by simp) (by simp [plainM]) (by simp only [argsM_len]; omega) ?_
          intro y hy
          simp [namedM, usesM, givesM] at hy
          rcases hy with hy | rfl
          · exact argsM_all hv l3 _ y hy
          · exact r1
        · split
          · have r1 := nextM_range hv la
            have r2 := nextM_range hv (nextM_inB (n := v) la)
            refine key _ (by simp) (by simp) (by simp [plainM]) (by simp) ?_
            intro y hy
            simp [namedM, usesM, givesM] at hy
            rcases hy with rfl | rfl <;> assumption
          · have r1 := nextM_range (n := 7) (by omega) la
            have l1 := nextM_inB (n := 7) la
            have r2 := nextM_range hv l1
            have l2 := nextM_inB (n := v) l1
            have r3 := nextM_range hv l2
            have l3 := nextM_inB (n := v) l2
            have r4 := nextM_range hv l3
            refine key _ (by simp) (by intro _; simp only; omega) (by simp [plainM]) (by simp) ?_
            intro y hy
            simp [namedM, usesM, givesM] at hy
            rcases hy with rfl | rfl | rfl <;> assumption
theorem insM_inB {v : Int} {l : List Int} (hl : InB l) : InB (insM v l).2 := by
  have la := nextM_inB (n := 9) hl
  unfold insM
  simp only
  split
  · exact nextM_inB (nextM_inB la)
  · split
    · exact nextM_inB (nextM_inB la)
    · split
      · exact nextM_inB (nextM_inB la)
      · split
        · exact argsM_inB (nextM_inB (nextM_inB (nextM_inB la))) _
        · split
          · exact nextM_inB (nextM_inB la)
          · exact nextM_inB (nextM_inB (nextM_inB (nextM_inB la)))
theorem insLoopM_inB {v : Int} {l : List Int} (hl : InB l) : ∀ k, InB (insLoopM v l k).2
  | 0 => hl
  | k + 1 => insM_inB (insLoopM_inB hl k)
theorem insLoopM_ok {v w : Int} {l : List Int} (hv : 0 < v) (hw : v ≤ w) (hl : InB l) : ∀ k, ∀ x ∈ (insLoopM v l k).1, ofM x w = 0
  | 0, x, h => by cases h
  | k + 1, x, h => by
    simp only [insLoopM] at h
    rcases List.mem_append.1 h with h | h
    · exact insLoopM_ok hv hw hl k x h
    · rw [List.mem_singleton] at h
      rw [h]; exact insM_ok hv hw (insLoopM_inB hl k)
theorem endMk_inB {v n : Int} {l : List Int} (hl : InB l) : InB (endMk v n l).2 := by
  unfold endMk
  simp only
  split
  · exact nextM_inB (nextM_inB hl)
  · split
    · exact nextM_inB (nextM_inB (nextM_inB (nextM_inB hl)))
    · exact nextM_inB (nextM_inB hl)
theorem endMk_ok {v w n m : Int} {l : List Int} (hv : 0 < v) (hw : v ≤ w) (hn : 0 < n) (hm : n ≤ m) (hl : InB l) : endM (endMk v n l).1 w m 21 = 0 := by
  have la := nextM_inB (n := 4) hl
  unfold endMk
  simp only
  split
  · have r1 := nextM_range hn la
    simp only [endM]; grind
  · split
    · have r1 := nextM_range hv la
      have l1 := nextM_inB (n := v) la
      have r2 := nextM_range hn l1
      have r3 := nextM_range hn (nextM_inB (n := n) l1)
      simp only [endM]; grind
    · have r1 := nextM_range hv la
      simp only [endM]; grind
theorem blkM_inB {v n : Int} {l : List Int} (hl : InB l) : InB (blkM v n l).2 := endMk_inB (insLoopM_inB (nextM_inB hl) _)
theorem blksM_inB {v n : Int} {l : List Int} (hl : InB l) : ∀ k, InB (blksM v n l k).2
  | 0 => hl
  | k + 1 => blkM_inB (blksM_inB hl k)
theorem blkM_ok {v w n m : Int} {l : List Int} (hv : 0 < v) (hw : v ≤ w) (hn : 0 < n) (hm : n ≤ m) (hl : InB l) :
    (blkM v n l).1.ins.length ≤ 8 ∧ (∀ x ∈ (blkM v n l).1.ins, ofM x w = 0) ∧ endM (blkM v n l).1.en w m 21 = 0 := by
  have r := nextM_range (n := 9) (by omega) hl
  refine ⟨?_, insLoopM_ok hv hw (nextM_inB hl) _, endMk_ok hv hw hn hm (insLoopM_inB (nextM_inB hl) _)⟩
  simp only [blkM, insLoopM_len]; omega
theorem blksM_ok {v w n m : Int} {l : List Int} (hv : 0 < v) (hw : v ≤ w) (hn : 0 < n) (hm : n ≤ m) (hl : InB l) : ∀ k, ∀ b ∈ (blksM v n l k).1,
    b.ins.length ≤ 8 ∧ (∀ x ∈ b.ins, ofM x w = 0) ∧ endM b.en w m 21 = 0
  | 0, x, h => by cases h
  | k + 1, x, h => by
    simp only [blksM] at h
    rcases List.mem_append.1 h with h | h
    · exact blksM_ok hv hw hn hm hl k x h
    · rw [List.mem_singleton] at h
      rw [h]; exact blkM_ok hv hw hn hm (blksM_inB hl k)
/-- What is made passes the check, with vregs more, and with blocks of its own more. -/
theorem made_ok {p0 p1 p2 w : Int} {l : List Int} {bs : List Blk} (h0 : 0 ≤ p0) (h1 : 0 ≤ p1) (h2 : 0 ≤ p2) (hl : InB l) (hw : madeV p0 p1 ≤ w) (hw2 : w ≤ 32) (hb : ∀ b ∈ bs, b ∈ madeB p0 p1 p2 l) (hn : (madeN p2) ≤ bs.length) (hn2 : bs.length ≤ 16) :
    checkM (madeP p0) w bs = (0, 0, 0) := by
  have a := madeP_range h0
  have b := madeV_range h0 h1
  have c := madeN_range h2
  unfold checkM
  rw [if_neg (by omega)]
  refine blkF_ok fun x hx => ?_
  have := blksM_ok (w := w) (m := bs.length) (by omega) hw (by omega) hn hl _ x (hb x hx)
  exact ⟨by omega, this.2⟩
theorem madeB_len {p0 p1 p2 : Int} {l : List Int} (h2 : 0 ≤ p2) : ((madeB p0 p1 p2 l).length : Int) = madeN p2 := by
  have c := madeN_range h2
  unfold madeB; rw [blksM_len]; omega
end Go.Proofs.YtgcaicdmjbkplaaDoor
