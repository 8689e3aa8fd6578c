/-
  The fixed fact of chapter 9: a set, a queue and a table of few. Conditions: as each contract says.
-/
import Derived.Test.YtgcaicdmjbkplaaDoorMapS
import Derived.Test.YtgcaicdmjbkplaaDoorR5U
import Derived.Test.YtgcaicdmjbkplaaDoorMr
import Derived.Laws.Strings
set_option linter.unusedVariables false
set_option linter.unusedSimpArgs false
namespace Go.Proofs.YtgcaicdmjbkplaaDoor
open Go

def StrC (_ : H) (cs : List Value) (s : ByteArray) : Prop := cs = [.string s]
theorem strC_mono : Mono StrC := fun _ _ _ _ _ h => h
abbrev StrsAt := SlAt 1 StrC
theorem StrsAt.read {h : H} {v : Value} {l : List ByteArray} (k : StrsAt h v l) {i : Nat} {x : ByteArray} (hi : l[i]? = some x) : Reads h ((vaddr v).add (i * 1)) [.string x] := by
  obtain ⟨cs, rfl, h2⟩ := k.get i x hi; exact h2
theorem rowF_strs {h : H} {e : TypeId} {u : Value} {l : List ByteArray} {fp : List Nat} (k : RowF h e 1 u (l.map .string) fp) : StrsAt h u l := by
  refine ⟨k.row0.fit, by have := k.row0.len; simp at this; exact this.symm, fun i x hi => ⟨_, rfl, k.row0.reads fun j u hj => ?_⟩⟩
  cases j with
  | zero => simp at hj; subst hj; simp [hi]
  | succ j => simp at hj
theorem andL {a b : Bool} (h : (a && b) = true) : a = true := by cases a <;> simp_all
theorem seq_self (x : ByteArray) : (x.toList == x.toList) = true := by simp
section
variable {h : H} {v : Value} {x : ByteArray} {n : Int}
theorem s71 : CallsA Tryd.prog 71 (fun _ => [.string x]) [] h (Ret fun r h' => h' = h ∧ r = .bool false) := by
  refine c71 (G := [.string x]) ⟨⟨_, rfl⟩, trivial⟩ ⟨rfl, rfl, ?_⟩
  show Value.bool (!(x.toList == x.toList)) = _
  rw [seq_self]; rfl
theorem s64 : CallsA Tryd.prog 64 (fun _ => [.string x]) [] h (Ret fun r h' => h' = h ∧ r = .bool false) := by
  refine c64 (G := [.string x]) ⟨⟨_, rfl⟩, trivial⟩ ⟨rfl, rfl, ?_⟩
  show Value.bool (!(x.toList == x.toList)) = _
  rw [seq_self]; rfl
theorem s63 {y : ByteArray} : CallsA Tryd.prog 63 (fun _ => [.string x, .string y]) [] h (Ret fun r h' => h' = h ∧ r = .bool (Op.bytesLess x.toList y.toList)) := by
  refine c63 (G := [.string x, .string y]) ⟨⟨_, rfl⟩, ⟨_, rfl⟩, trivial⟩ ?_
  refine h_call0 (s71) ?_
  rintro _ h1 ⟨rfl, rfl⟩
  refine ⟨[.bool false], ⟨⟨_, rfl⟩, trivial⟩, rfl, iteF rfl ?_⟩
  rintro w rfl
  exact ⟨rfl, rfl, rfl⟩
theorem bytesLess_self : ∀ l : List UInt8, Op.bytesLess l l = false
  | [] => rfl
  | a :: l => by
    unfold Op.bytesLess
    simp [bytesLess_self l]
theorem mid_eq {i j : Nat} (h : i + j < 4000000000000000000) : IntKind.i64.wrap (intOp .shr .u64 (IntKind.u64.wrap (intOp .add .i64 (i : Int) (j : Int))) 1) = (((i + j) / 2 : Nat) : Int) := by
  have e1 : intOp .add .i64 (i : Int) (j : Int) = ((i + j : Nat) : Int) := by simp only [intOp]; rw [wrap_i64 (by omega) (by omega)]; omega
  rw [e1, wrap_u64 (by omega)]
  have e2 : intOp .shr .u64 ((i + j : Nat) : Int) 1 = (((i + j) / 2 : Nat) : Int) := by
    have := bit_shr (w := i + j) (s := 1) (by omega)
    rw [Nat.shiftRight_eq_div_pow] at this
    exact this
  rw [e2, wrap_i64 (by omega) (by omega)]
theorem seq_eq (a b : ByteArray) : (a.toList == b.toList) = decide (a = b) := by
  rw [Bool.eq_iff_iff, beq_iff_eq, decide_eq_true_eq, ByteArray.toList_eq, ByteArray.toList_eq]
  constructor
  · intro h
    cases a; cases b
    simp only [ByteArray.mk.injEq]
    exact Array.toList_inj.1 h
  · intro h; rw [h]
/-- A search among strings that rise: so many are below. -/
theorem bsS {l : List ByteArray} {p : Nat} (hv : StrsAt h v l) (hl : l.length ≤ 1000000) (hp : p ≤ l.length) (hlt : ∀ k y, l[k]? = some y → Op.bytesLess y.toList x.toList = decide (k < p)) :
    CallsA Tryd.prog 53 (fun _ => [v, .string x]) [] h (Ret fun r h' => h' = h ∧ r = .tuple #[natV p, .bool (decide (l[p]? = some x))]) := by
  refine c53 (G := [v, .string x]) ⟨hv.fit, ⟨_, rfl⟩, trivial⟩ ?_
  have hvl := hv.len
  refine h_loop (fun xs h' => ∃ i j : Nat, xs = [natV i, natV j] ∧ i ≤ p ∧ p ≤ j ∧ j ≤ l.length ∧ h' = h) (fun xs h' => (vi (gv xs 1)).toNat - (vi (gv xs 0)).toNat) ⟨0, l.length, by show [Value.int .i64 0, .int .i64 ((vlen v : Nat) : Int)] = _; rw [hvl]; rfl, Nat.zero_le _, hp, Nat.le_refl _, rfl⟩ ?_
  rintro xs h' J - ⟨i, j, rfl, hi, hj, hjl, e⟩ hJ
  have e' := e.symm
  subst e'
  refine h_ite (fun hc => ?_) (fun hc => ?_)
  · replace hc : cmpOp .lss (i : Int) (j : Int) = true := hc
    rw [cmp_lss, decide_eq_true_eq] at hc
    have hmid := mid_eq (i := i) (j := j) (by omega)
    obtain ⟨m, hm⟩ : ∃ m, m = (i + j) / 2 := ⟨_, rfl⟩
    rw [← hm] at hmid
    have hml : m < l.length := by omega
    have hx := List.getElem?_eq_getElem hml
    generalize l[m] = y at hx
    have hy := hlt m y hx
    refine ⟨fun _ => ⟨?_, ?_, trivial⟩, h_load [.string y] ⟨⟨_, rfl⟩, trivial⟩ (fun _ => ?_) ?_⟩
    · show cmpOp .geq (IntKind.i64.wrap (intOp .shr .u64 (IntKind.u64.wrap (intOp .add .i64 (i : Int) (j : Int))) 1)) 0 = true
      rw [hmid]; exact ge0 m
    · show cmpOp .lss (IntKind.i64.wrap (intOp .shr .u64 (IntKind.u64.wrap (intOp .add .i64 (i : Int) (j : Int))) 1)) ((vlen v : Nat) : Int) = true
      rw [hmid, hvl]; exact ltN hml
    · show Reads _ ((vaddr v).add ((IntKind.i64.wrap (intOp .shr .u64 (IntKind.u64.wrap (intOp .add .i64 (i : Int) (j : Int))) 1)).toNat * 1)) _
      rw [hmid]; exact hv.read hx
    refine h_call0 s63 ?_
    rintro _ h2 ⟨e2, rfl⟩
    have e2' := e2.symm
    subst e2'
    refine ⟨[.bool (Op.bytesLess y.toList x.toList)], ⟨⟨_, rfl⟩, trivial⟩, rfl, ?_⟩
    rw [hy]
    show J [.int .i64 (vi (if decide (m < p) = true then Value.int .i64 (intOp .add .i64 (IntKind.i64.wrap (intOp .shr .u64 (IntKind.u64.wrap (intOp .add .i64 (i : Int) (j : Int))) 1)) 1) else natV i)), .int .i64 (vi (if decide (m < p) = true then natV j else Value.int .i64 (IntKind.i64.wrap (intOp .shr .u64 (IntKind.u64.wrap (intOp .add .i64 (i : Int) (j : Int))) 1))))] _
    rw [hmid, int_add_one (n := 1000001) (by omega) (by omega)]
    by_cases q : m < p
    · simp only [q, decide_true, if_true, vi_int]
      exact hJ _ _ ⟨m + 1, j, rfl, by omega, hj, hjl, rfl⟩ (by simp only [gv_zero, gv_succ, vi_int]; omega)
    · simp only [q, decide_false, Bool.false_eq_true, if_false, vi_int]
      exact hJ _ _ ⟨i, m, rfl, hi, by omega, by omega, rfl⟩ (by simp only [gv_zero, gv_succ, vi_int]; omega)
  · replace hc : cmpOp .lss (i : Int) (j : Int) = false := hc
    rw [cmp_lss, decide_eq_false_iff_not] at hc
    obtain rfl : i = p := by omega
    have nd : ∀ {D : List Value}, gv D 2 = natV i → gv D 0 = v → cmpOp .lss (i : Int) ((vlen v : Nat) : Int) = true → needs D [(.cmp .geq (.var 2) (.lit 0)), (.cmp .lss (.var 2) (.len 0))] := fun e1 e2 q => by
      simp only [needs, X.den, e1, e2, vb_bool, vi_int, and_true]
      exact ⟨ge0 i, q⟩
    obtain ⟨y, hy⟩ : ∃ y : ByteArray, i < l.length → l[i]? = some y := by
      by_cases q : i < l.length
      · exact ⟨_, fun _ => List.getElem?_eq_getElem q⟩
      · exact ⟨ByteArray.empty, fun h => absurd h q⟩
    have rd : cmpOp .lss (i : Int) ((vlen v : Nat) : Int) = true → Reads h ((vaddr v).add (i * 1)) [.string y] := fun q => by
      rw [hvl, cmp_lss, decide_eq_true_eq] at q
      exact hv.read (hy (by omega))
    refine ⟨fun q => nd rfl rfl q, h_load [.string y] ⟨⟨_, rfl⟩, trivial⟩ (fun q => rd q) ⟨fun q => nd rfl rfl (andL q), h_load [.string y] ⟨⟨_, rfl⟩, trivial⟩ (fun q => rd (andL q)) (h_ite (fun q => ?_) (fun q => ?_))⟩⟩
    · replace q : cmpOp .lss (i : Int) ((vlen v : Nat) : Int) = true := q
      rw [hvl, cmp_lss, decide_eq_true_eq] at q
      have hy' := hy (by omega)
      refine h_ite (fun z => ?_) (fun z => ?_)
      · replace z : (!(y.toList == x.toList)) = true := z
        rw [seq_eq, Bool.not_eq_true', decide_eq_false_iff_not] at z
        refine h_call0 (s64 (x := y)) ?_
        rintro _ h2 ⟨rfl, rfl⟩
        refine ⟨[.bool false], ⟨⟨_, rfl⟩, trivial⟩, rfl, iteF rfl ⟨rfl, rfl, ?_⟩⟩
        rw [hy']
        simp [z]; rfl
      · replace z : (!(y.toList == x.toList)) = false := z
        rw [seq_eq, Bool.not_eq_false', decide_eq_true_eq] at z
        refine ⟨rfl, rfl, ?_⟩
        rw [hy', z]; simp; rfl
    · replace q : cmpOp .lss (i : Int) ((vlen v : Nat) : Int) = false := q
      rw [hvl, cmp_lss, decide_eq_false_iff_not] at q
      refine ⟨rfl, rfl, ?_⟩
      rw [List.getElem?_eq_none (by omega)]; rfl
theorem bs_nil : CallsA Tryd.prog 53 (fun _ => [.slice none 0 0, .string x]) [] h (Ret fun r h' => h' = h ∧ r = .tuple #[.int .i64 0, .bool false]) :=
  bsS (l := []) (p := 0) SlAt.nil (by simp) (by simp) fun k y hk => by simp at hk
theorem bs_one (hv : StrsAt h v [x]) : CallsA Tryd.prog 53 (fun _ => [v, .string x]) [] h (Ret fun r h' => h' = h ∧ r = .tuple #[.int .i64 0, .bool true]) := by
  have := bsS (x := x) (l := [x]) (p := 0) hv (by simp) (by simp) fun k y hk => by
    obtain ⟨rfl, rfl⟩ := get_one hk
    rw [bytesLess_self]; rfl
  rw [show decide ([x][0]? = some x) = true by simp] at this
  exact this
/-- One more behind none. -/
theorem ins_str (hv : StrsAt h v [x]) : CallsA Tryd.prog 54 (fun _ => [.slice none 0 0, .int .i64 0, v]) [] h (Ret fun r h' => h.le h' ∧ ∃ fp, RowF h' 9 1 r ([x].map .string) fp ∧ Fresh h fp) := by
  refine c54 (G := [.slice none 0 0, .int .i64 0, v]) ⟨fits_nil, ⟨_, rfl⟩, hv.fit, trivial⟩ ?_
  have hvl : vlen v = 1 := hv.len
  obtain ⟨a, m, c, rfl, h3, h4⟩ := hv.fit
  simp only [vlen_sl] at hvl
  refine ⟨fun _ => ⟨rfl, rfl, trivial⟩, fun w hw => iteF ?_ (iteT rfl ?_)⟩
  · show cmpOp .eql ((m : Nat) : Int) 0 = false
    rw [hvl]; rfl
  refine ⟨[.string x], 1, ⟨rfl, fun z hz => ?_, ?_⟩, ?_⟩
  · simp at hz; subst hz; rfl
  · have rd := hv.read (i := 0) (x := x) rfl
    cases a with
    | none => have := (h3 rfl).1; omega
    | some b =>
      refine ⟨hvl.symm, ?_⟩
      intro j u hj
      have := rd j u hj
      rw [add_add] at this; simpa using this
  · show AppSpec _ _ _ _ _ (.slice none 0 0) _ _ _
    refine app_rowF (fp := []) (cs := []) (.inl ⟨rfl, rfl, rfl⟩) rfl zero_str (by simp only [vlen_sl]; omega) fun v' h' fp' m1 m2 m3 m4 => ?_
    refine ⟨rfl, m3.le_nil, fp', m1, ?_⟩
    rcases m4 with rfl | ⟨b, rfl, hb⟩
    · exact fun b hb => absurd hb List.not_mem_nil
    · intro y hy; rw [List.mem_singleton] at hy; subst hy; exact hb
theorem ins_int (hv : IntsAt h v [n]) : CallsA Tryd.prog 58 (fun _ => [.slice none 0 0, .int .i64 0, v]) [] h (Ret fun r h' => h.le h' ∧ ∃ fp, RowF h' 3 1 r ([n].map (.int .i64)) fp ∧ Fresh h fp) := by
  refine c58 (G := [.slice none 0 0, .int .i64 0, v]) ⟨fits_nil, ⟨_, rfl⟩, hv.fit, trivial⟩ ?_
  have hvl : vlen v = 1 := hv.len
  obtain ⟨a, m, c, rfl, h3, h4⟩ := hv.fit
  simp only [vlen_sl] at hvl
  refine ⟨fun _ => ⟨rfl, rfl, trivial⟩, fun w hw => iteF ?_ (iteT rfl ?_)⟩
  · show cmpOp .eql ((m : Nat) : Int) 0 = false
    rw [hvl]; rfl
  refine ⟨[.int .i64 n], 1, ⟨rfl, fun z hz => ?_, ?_⟩, ?_⟩
  · simp at hz; subst hz; rfl
  · have rd := hv.read (i := 0) (x := n) rfl
    cases a with
    | none => have := (h3 rfl).1; omega
    | some b =>
      refine ⟨hvl.symm, ?_⟩
      intro j u hj
      have := rd j u hj
      rw [add_add] at this; simpa using this
  · show AppSpec _ _ _ _ _ (.slice none 0 0) _ _ _
    refine app_rowF (fp := []) (cs := []) (.inl ⟨rfl, rfl, rfl⟩) rfl zero_int (by simp only [vlen_sl]; omega) fun v' h' fp' m1 m2 m3 m4 => ?_
    refine ⟨rfl, m3.le_nil, fp', m1, ?_⟩
    rcases m4 with rfl | ⟨b, rfl, hb⟩
    · exact fun b hb => absurd hb List.not_mem_nil
    · intro y hy; rw [List.mem_singleton] at hy; subst hy; exact hb
theorem str_new {b : Nat} : StrsAt (h.put b (.cells ([x].map Value.string).toArray 9 (0, 0))) (.slice (some ⟨b, 0, none⟩) 1 1) [x] := by
  have := RowF.new (h := h) (e := 9) (sz := 1) (b := b) (n := 1) (c := 1) (cs := [x].map Value.string) (r := []) (by simp) (by simp) (Nat.le_refl _)
  rw [List.append_nil] at this
  exact rowF_strs this
theorem int_new1 {b : Nat} : IntsAt (h.put b (.cells ([n].map (Value.int .i64)).toArray 3 (0, 0))) (.slice (some ⟨b, 0, none⟩) 1 1) [n] := by
  have := RowF.new (h := h) (e := 3) (sz := 1) (b := b) (n := 1) (c := 1) (cs := [n].map (Value.int .i64)) (r := []) (by simp) (by simp) (Nat.le_refl _)
  rw [List.append_nil] at this
  exact rowF_ints this
/-- A table of one. -/
def Tab1 (h : H) (kv vv : Value) (x : ByteArray) (n : Int) (fk fv : List Nat) : Prop := RowF h 9 1 kv ([x].map .string) fk ∧ RowF h 3 1 vv ([n].map (.int .i64)) fv ∧ ∀ b ∈ fk, b ∉ fv
theorem tab_put1 : CallsA Tryd.prog 29 (fun e => [(e 0).ptr 0, .string x, .int .i64 n]) [[.slice none 0 0, .slice none 0 0]] h
    (RetC fun r c h' => r = .bool true ∧ ∃ kv vv fk fv, c = [kv, vv] ∧ Tab1 h' kv vv x n fk fv ∧ h.le h' ∧ Fresh h fk ∧ Fresh h fv) := by
  refine c29k (G := [.slice none 0 0, .slice none 0 0, .string x, .int .i64 n]) ⟨fits_nil, fits_nil, ⟨_, rfl⟩, ⟨_, rfl⟩, trivial⟩ ?_
  refine h_call0 bs_nil ?_
  rintro _ h1 ⟨e1, rfl⟩
  have e1' := e1.symm
  subst e1'
  refine ⟨[.int .i64 0, .bool false], ⟨⟨_, rfl⟩, ⟨_, rfl⟩, trivial⟩, rfl, iteF rfl ?_⟩
  have fin : ∀ {g g1 : H} {a b : Value} {f1 f2 : List Nat} (l1 : h.le g) (k1 : RowF g 9 1 a ([x].map .string) f1) (w1 : Fresh h f1) (l2 : g.le g1) (k2 : RowF g1 3 1 b ([n].map (.int .i64)) f2) (w2 : Fresh g f2),
      (RetC fun r c h' => r = .bool true ∧ ∃ kv vv fk fv, c = [kv, vv] ∧ Tab1 h' kv vv x n fk fv ∧ h.le h' ∧ Fresh h fk ∧ Fresh h fv) (.bool true) [[a, b]] g1 := fun {g g1 a b f1 f2} l1 k1 w1 l2 k2 w2 =>
    ⟨_, rfl, rfl, a, b, f1, f2, rfl, ⟨k1.agree (le_agree' l2 k1.live), k2, fun z hz hz' => by have := k1.live z hz; rw [w2 z hz'] at this; cases this⟩, l1.trans l2, w1, fun z hz => H.le_none l1 (w2 z hz)⟩
  refine ⟨?_, ?_⟩
  · intro b1 hb1
    have q1 := str_new (h := h) (b := b1) (x := x)
    have l1 : h.le (h.put b1 (.cells ([x].map Value.string).toArray 9 (0, 0))) := H.le_put hb1
    refine ⟨?_, ?_⟩
    · refine h_call0 (ins_str (h := h.put b1 (.cells ([x].map Value.string).toArray 9 (0, 0))) q1) ?_
      rintro a g ⟨lg, f1, k1, w1⟩
      refine ⟨[a], ⟨k1.row0.fit, trivial⟩, rfl, ?_⟩
      intro b2 hb2
      have q2 := int_new1 (h := g) (b := b2) (n := n)
      have l2 : g.le (g.put b2 (.cells ([n].map (Value.int .i64)).toArray 3 (0, 0))) := H.le_put hb2
      refine h_call0 (ins_int (h := g.put b2 (.cells ([n].map (Value.int .i64)).toArray 3 (0, 0))) q2) ?_
      rintro b g1 ⟨lg1, f2, k2, w2⟩
      refine ⟨[b], ⟨k2.row0.fit, trivial⟩, rfl, ?_⟩
      exact fin (l1.trans lg) k1 (fun z hz => H.le_none l1 (w1 z hz)) (l2.trans lg1) k2 (fun z hz => H.le_none l2 (w2 z hz))
    · intro b2 hb2
      have q2 := int_new1 (h := h.put b1 (.cells ([x].map Value.string).toArray 9 (0, 0))) (b := b2) (n := n)
      have l2 : (h.put b1 (.cells ([x].map Value.string).toArray 9 (0, 0))).le ((h.put b1 (.cells ([x].map Value.string).toArray 9 (0, 0))).put b2 (.cells ([n].map (Value.int .i64)).toArray 3 (0, 0))) := H.le_put hb2
      refine h_call0 (ins_str (h := (h.put b1 (.cells ([x].map Value.string).toArray 9 (0, 0))).put b2 (.cells ([n].map (Value.int .i64)).toArray 3 (0, 0))) (SlAt.le strC_mono l2 q1)) ?_
      rintro a g ⟨lg, f1, k1, w1⟩
      refine ⟨[a], ⟨k1.row0.fit, trivial⟩, rfl, ?_⟩
      refine h_call0 (ins_int (h := g) (q2.le lg)) ?_
      rintro b g1 ⟨lg1, f2, k2, w2⟩
      refine ⟨[b], ⟨k2.row0.fit, trivial⟩, rfl, ?_⟩
      exact fin (l1.trans (l2.trans lg)) k1 (fun z hz => H.le_none (l1.trans l2) (w1 z hz)) lg1 k2 w2
  · intro b1 hb1
    have q1 := int_new1 (h := h) (b := b1) (n := n)
    have l1 : h.le (h.put b1 (.cells ([n].map (Value.int .i64)).toArray 3 (0, 0))) := H.le_put hb1
    intro b2 hb2
    have q2 := str_new (h := h.put b1 (.cells ([n].map (Value.int .i64)).toArray 3 (0, 0))) (b := b2) (x := x)
    have l2 : (h.put b1 (.cells ([n].map (Value.int .i64)).toArray 3 (0, 0))).le ((h.put b1 (.cells ([n].map (Value.int .i64)).toArray 3 (0, 0))).put b2 (.cells ([x].map Value.string).toArray 9 (0, 0))) := H.le_put hb2
    refine h_call0 (ins_str (h := (h.put b1 (.cells ([n].map (Value.int .i64)).toArray 3 (0, 0))).put b2 (.cells ([x].map Value.string).toArray 9 (0, 0))) q2) ?_
    rintro a g ⟨lg, f1, k1, w1⟩
    refine ⟨[a], ⟨k1.row0.fit, trivial⟩, rfl, ?_⟩
    refine h_call0 (ins_int (h := g) ((q1.le l2).le lg)) ?_
    rintro b g1 ⟨lg1, f2, k2, w2⟩
    refine ⟨[b], ⟨k2.row0.fit, trivial⟩, rfl, ?_⟩
    exact fin (l1.trans (l2.trans lg)) k1 (fun z hz => H.le_none (l1.trans l2) (w1 z hz)) lg1 k2 w2
theorem tab_put2 {kv vv : Value} {m : Int} {fk fv : List Nat} (T : Tab1 h kv vv x m fk fv) : CallsA Tryd.prog 29 (fun e => [(e 0).ptr 0, .string x, .int .i64 n]) [[kv, vv]] h
    (RetC fun r c h' => r = .bool false ∧ c = [kv, vv] ∧ Tab1 h' kv vv x n fk fv ∧ KeptH h h' fv) := by
  obtain ⟨t1, t2, t3⟩ := T
  refine c29k (G := [kv, vv, .string x, .int .i64 n]) ⟨t1.row0.fit, t2.row0.fit, ⟨_, rfl⟩, ⟨_, rfl⟩, trivial⟩ ?_
  refine h_call0 (bs_one (rowF_strs t1)) ?_
  rintro _ h1 ⟨e1, rfl⟩
  have e1' := e1.symm
  subst e1'
  have hvl : vlen vv = 1 := (rowF_ints t2).len
  refine ⟨[.int .i64 0, .bool true], ⟨⟨_, rfl⟩, ⟨_, rfl⟩, trivial⟩, rfl, iteT rfl ⟨fun _ => ⟨rfl, ?_, trivial⟩, ?_⟩⟩
  · show cmpOp .lss 0 ((vlen vv : Nat) : Int) = true
    rw [hvl]; rfl
  obtain ⟨w1, w2, w3⟩ := rowF_set (x := .int .i64 n) (i := 0) t2 (by simp)
  refine h_store ((vaddr vv).add 0) [.int .i64 n] rfl rfl w1 ?_
  exact ⟨_, rfl, rfl, rfl, ⟨t1.agree (w3.agree t1.live t3), w2, t3⟩, w3⟩
theorem tab_get {kv vv : Value} {fk fv : List Nat} (T : Tab1 h kv vv x n fk fv) : CallsA Tryd.prog 31 (fun e => [(e 0).ptr 0, .string x]) [[kv, vv]] h
    (RetC fun r c h' => r = .tuple #[.int .i64 n, .bool true] ∧ c = [kv, vv] ∧ h' = h) := by
  obtain ⟨t1, t2, t3⟩ := T
  refine c31k (G := [kv, vv, .string x]) ⟨t1.row0.fit, t2.row0.fit, ⟨_, rfl⟩, trivial⟩ ?_
  refine h_call0 (bs_one (rowF_strs t1)) ?_
  rintro _ h1 ⟨e1, rfl⟩
  have e1' := e1.symm
  subst e1'
  have hvl : vlen vv = 1 := (rowF_ints t2).len
  refine ⟨[.int .i64 0, .bool true], ⟨⟨_, rfl⟩, ⟨_, rfl⟩, trivial⟩, rfl, iteF rfl ⟨fun _ => ⟨rfl, ?_, trivial⟩, h_load [.int .i64 n] ⟨⟨_, rfl⟩, trivial⟩ (fun _ => (rowF_ints t2).read (i := 0) rfl) ?_⟩⟩
  · show cmpOp .lss 0 ((vlen vv : Nat) : Int) = true
    rw [hvl]; rfl
  exact ⟨_, rfl, rfl, rfl, rfl⟩
theorem s17 (ht : Tab h) : CallsA Tryd.prog 17 (fun _ => []) [] h (Ret fun r h' => h.le h' ∧ r = .bool true) := by
  refine c17 (G := []) trivial ?_
  intro b1 hb1
  have l1 : h.le (h.put b1 (.cells (([5, 3, 5] : List Int).map (Value.int .i64)).toArray 3 (0, 0))) := H.le_put hb1
  have k1 : IntsAt (h.put b1 (.cells (([5, 3, 5] : List Int).map (Value.int .i64)).toArray 3 (0, 0))) (.slice (some ⟨b1, 0, none⟩) 3 3) (([5, 3, 5] : List Nat).map Int.ofNat) := (own_new (h0 := h) (h := h) (b := b1) (l := ([5, 3, 5] : List Int)) hb1).ints
  show holds _ _ _ [.slice (some ⟨b1, 0, none⟩) 3 3] _ (h.put b1 (.cells (([5, 3, 5] : List Int).map (Value.int .i64)).toArray 3 (0, 0)))
  generalize h.put b1 (.cells (([5, 3, 5] : List Int).map (Value.int .i64)).toArray 3 (0, 0)) = h1 at l1 k1
  generalize Value.slice (some ⟨b1, 0, none⟩) 3 3 = u at k1
  have hof := s45g k1 (by decide) (by decide)
  refine h_call0 hof ?_
  rintro _ h2 ⟨l2, w, ws, fw, rfl, hs, hw, fr⟩
  refine ⟨[w], ⟨hs.fit, trivial⟩, rfl, ?_⟩
  -- a queue
  refine h_call1 (s26k (x := ⟨#[120]⟩) (h := h2) QRepS.nil (by simp)) ?_
  rintro _ c h3 ⟨rfl, vr, vm, fq, rfl, hq, kq, nq⟩
  rw [if_neg (by simp), List.nil_append] at hq
  have l3 := kq.le_nil
  have fq2 : Fresh h2 fq := fun b hb => (nq b hb).elim (fun q => absurd q List.not_mem_nil) id
  refine ⟨hq.fits, [.bool _], ⟨⟨_, rfl⟩, trivial⟩, rfl, ?_⟩
  refine h_call1 (s26k (x := ⟨#[120]⟩) hq (by simp)) ?_
  rintro _ c h4 ⟨rfl, vr2, vm2, fq3, rfl, hq2, kq2, nq2⟩
  have l4 : h2.le h4 := kq2.le l3 fq2
  refine ⟨hq2.fits, [.bool _], ⟨⟨_, rfl⟩, trivial⟩, rfl, ?_⟩
  -- a table
  refine h_call1 (tab_put1 (h := h4) (x := ⟨#[107]⟩) (n := 1)) ?_
  rintro _ c h5 ⟨rfl, kv, vv, fk, fv, rfl, T, l5, fk4, fv4⟩
  refine ⟨⟨T.1.row0.fit, T.2.1.row0.fit, trivial⟩, [.bool true], ⟨⟨_, rfl⟩, trivial⟩, rfl, ?_⟩
  refine h_call1 (tab_put2 (n := 2) T) ?_
  rintro _ c h6 ⟨rfl, rfl, T2, k6⟩
  have l6 : h4.le h6 := k6.le l5 fv4
  refine ⟨⟨T2.1.row0.fit, T2.2.1.row0.fit, trivial⟩, [.bool false], ⟨⟨_, rfl⟩, trivial⟩, rfl, ?_⟩
  refine h_call1 (tab_get T2) ?_
  rintro _ c h7 ⟨rfl, rfl, e7⟩
  have e7' := e7.symm
  subst e7'
  refine ⟨⟨T2.1.row0.fit, T2.2.1.row0.fit, trivial⟩, [.int .i64 2, .bool true], ⟨⟨_, rfl⟩, ⟨_, rfl⟩, trivial⟩, rfl, ?_⟩
  have l26 := l4.trans l6
  refine h_call0 (s23 (ht.le (l1.trans (l2.trans l26))) (SlAt.le u64C_mono l26 (rowF_words hs.1)) hs.2.1 hs.2.2) ?_
  rintro av h8 ⟨l8, ho⟩
  have hall : (allW ws).map Int.ofNat = [3, 5] := by
    have : allW ws = [3, 5] := by
      have hf := filter_skip (p := hasW ws) (a := 6) (b := max 6 (64 * ws.length)) (by omega) fun y h1 h2 => by
        rw [hw]; unfold ofP; rw [decide_eq_false_iff_not]; simp; omega
      have h6 : 6 ≤ 64 * ws.length := by
        have := hasW_big (ws := ws) (x := 5) (by rw [hw]; rfl)
        omega
      unfold allW
      rw [show max 6 (64 * ws.length) = 64 * ws.length by omega] at hf
      rw [hf, hw]; rfl
    rw [this]; rfl
  rw [hall] at ho
  refine ⟨[av], ⟨ho.fit, trivial⟩, rfl, ?_⟩
  intro b2 hb2
  have l9 : h8.le (h8.put b2 (.cells (([3, 5] : List Int).map (Value.int .i64)).toArray 3 (0, 0))) := H.le_put hb2
  have k9 : IntsAt (h8.put b2 (.cells (([3, 5] : List Int).map (Value.int .i64)).toArray 3 (0, 0))) (.slice (some ⟨b2, 0, none⟩) 2 2) ([3, 5] : List Int) := (own_new (h0 := h8) (h := h8) (b := b2) (l := ([3, 5] : List Int)) hb2).ints
  refine h_call0 (s40 (h := h8.put b2 (.cells (([3, 5] : List Int).map (Value.int .i64)).toArray 3 (0, 0))) (ho.ints.le l9) k9 (by simp)) ?_
  rintro _ h10 ⟨e10, rfl⟩
  refine ⟨[.bool true], ⟨⟨_, rfl⟩, trivial⟩, rfl, rfl, by rw [e10]; exact l1.trans (l2.trans (l26.trans (l8.trans l9))), rfl⟩
end
end Go.Proofs.YtgcaicdmjbkplaaDoor
