/-
  Moves of a vreg; a vreg done with; the simplest step. Conditions: as each contract says.
-/
import Derived.Test.YtbgfabppmobpgaaDoorR6O
set_option linter.unusedVariables false
set_option linter.unusedSimpArgs false
namespace Go.Proofs.YtbgfabppmobpgaaDoor
open Go

/-! ### The first of a list -/
theorem find_at {α : Type} {p : α → Bool} : ∀ {l : List α} {i : Nat} {x : α}, l[i]? = some x → p x = true → (∀ j y, j < i → l[j]? = some y → p y = false) → l.find? p = some x
  | [], i, x, h, _, _ => by simp at h
  | a :: l, 0, x, h, hp, _ => by simp at h; subst h; rw [List.find?_cons, hp]
  | a :: l, i + 1, x, h, hp, hn => by
    have ha := hn 0 a (by omega) rfl
    rw [List.find?_cons, ha]
    exact find_at (i := i) (by simpa using h) hp fun j y hj hy => hn (j + 1) y (by omega) (by simpa using hy)
theorem find_no {α : Type} {p : α → Bool} {l : List α} (h : ∀ j y, j < l.length → l[j]? = some y → p y = false) : l.find? p = none := by
  rw [List.find?_eq_none]
  intro x hx
  obtain ⟨j, hj, e⟩ := List.getElem_of_mem hx
  rw [h j x hj (by rw [List.getElem?_eq_getElem hj, e])]
  simp
/-! ### How much there is -/
def Szs (N : Nat) (w : CW) : Prop := w.stack.length + cntP w.left ≤ N ∧ w.moves.length ≤ 1000000
theorem Stp.szs {N k : Nat} {w w' : CW} (K : CInv N w) (S : Stp k w w') (z : Szs N w) : Szs N w' := by
  cases S with
  | @push v hv hd =>
    have hc := cntP_cut (p := w.left) (Nat.lt_of_lt_of_le (K.leftN _ hv) K.hN) hv
    refine ⟨?_, z.2⟩
    have := z.1
    show (w.stack ++ [v]).length + cntP (cutP w.left v) ≤ N
    rw [List.length_append, List.length_singleton]; omega
  | drop hm hl => exact ⟨z.1, Nat.le_trans (Nat.le_of_lt hl) z.2⟩
  | @merge a b ms M hm hl hx hg =>
    have hc := cntP_cut (p := w.left) (Nat.lt_of_lt_of_le (K.leftN _ M.lb) K.hN) M.lb
    refine ⟨?_, Nat.le_trans (Nat.le_of_lt hl) z.2⟩
    have := z.1
    show w.stack.length + cntP (cutP w.left b) ≤ N
    omega
  | @spill v hv hn =>
    have hc := cntP_cut (p := w.left) (Nat.lt_of_lt_of_le (K.leftN _ hv) K.hN) hv
    have := z.1
    refine ⟨?_, Nat.le_trans (List.length_filter_le _ _) z.2⟩
    show (w.stack ++ [v]).length + cntP (cutP w.left v) ≤ N
    rw [List.length_append, List.length_singleton]; omega
section
variable {g h h' : H} {bw k N : Nat} {fv : Value} {firm : List Bool} {w : CW} {V : WV} {F : Nat → List Nat}
abbrev adr (b : Nat) : Addr := ⟨b, 0, none⟩
theorem WOx.grow (K : WOx g h bw k fv firm w) (hl : h.le h') : WOx g h' bw k fv firm w := by obtain ⟨V, F, K⟩ := K; exact ⟨V, F, K.grow hl⟩
theorem s62 (K : WO g h bw k fv firm w V F) (C : CInv N w) {m : Nat × Nat} (hm : m.1 < N ∧ m.2 < N) {v bp bq : Nat} (hp : Reads h (adr bp) [pW bw]) (hq : Reads h (adr bq) [natV v]) :
    CallsA Tryd.prog 62 (fun _ => [.agg #[natV m.1, natV m.2], .pointer (some (adr bp)), .pointer (some (adr bq))]) [] h (Ret fun r h' => h' = h ∧ r = .bool (w.at_ v m)) := by
  refine c62 (G := [natV m.1, natV m.2, .pointer (some (adr bp)), .pointer (some (adr bq))]) ⟨⟨_, rfl⟩, ⟨_, rfl⟩, ⟨_, rfl⟩, ⟨_, rfl⟩, trivial⟩ ?_
  refine h_load [pW bw] ⟨⟨_, rfl⟩, trivial⟩ (fun _ => hp) (h_load [natV v] ⟨⟨_, rfl⟩, trivial⟩ (fun _ => hq) ?_)
  simp only [List.cons_append, List.nil_append]
  refine h_call0 (s49 K C hm.1) ?_
  rintro _ h1 ⟨e1, rfl⟩
  have e1' := e1.symm
  subst e1'
  refine ⟨[natV (w.of m.1)], ⟨⟨_, rfl⟩, trivial⟩, rfl, fun _ => hq, h_load [pW bw] ⟨⟨_, rfl⟩, trivial⟩ (fun _ => hp) (h_load [natV v] ⟨⟨_, rfl⟩, trivial⟩ (fun _ => hq) (h_ite (fun hc => ?_) (fun hc => ?_)))⟩
  · replace hc : (!cmpOp .eql ((w.of m.1 : Nat) : Int) (v : Int)) = true := hc
    rw [cmp_eql, Bool.not_eq_true', decide_eq_false_iff_not] at hc
    have hne : w.of m.1 ≠ v := fun q => hc (by rw [q])
    simp only [List.cons_append, List.nil_append]
    refine h_call0 (s49 K C hm.2) ?_
    rintro _ h1 ⟨e1, rfl⟩
    have e1' := e1.symm
    subst e1'
    refine ⟨[natV (w.of m.2)], ⟨⟨_, rfl⟩, trivial⟩, rfl, fun _ => hq, fun _ => hq, rfl, rfl, ?_⟩
    show Value.bool (cmpOp .eql ((w.of m.2 : Nat) : Int) (v : Int)) = .bool (decide (w.of m.1 = v) || decide (w.of m.2 = v))
    rw [cmp_eql, decide_eq_false hne, Bool.false_or]
    congr 1
    exact decide_eq_decide.2 (by omega)
  · replace hc : (!cmpOp .eql ((w.of m.1 : Nat) : Int) (v : Int)) = false := hc
    rw [cmp_eql, Bool.not_eq_false', decide_eq_true_eq] at hc
    have he : w.of m.1 = v := by omega
    refine ⟨fun _ => hq, rfl, rfl, ?_⟩
    show Value.bool true = .bool (decide (w.of m.1 = v) || decide (w.of m.2 = v))
    rw [decide_eq_true he]; rfl
theorem cv_moving (K : WO g h bw k fv firm w V F) (C : CInv N w) {v bp bq : Nat} (hp : Reads h (adr bp) [pW bw]) (hq : Reads h (adr bq) [natV v]) {E : List (Nat × Nat)} (hE : ∀ m ∈ E, m.1 < N ∧ m.2 < N) :
    ∀ e ∈ edI E, CallvSpec Tryd.prog h (.func (.func 62) #[] #[.pointer (some (adr bp)), .pointer (some (adr bq))]) [.agg #[.int .i64 e.1, .int .i64 e.2]] fun r h' => h' = h ∧ r = .bool (w.at_ v (e.1.toNat, e.2.toNat)) := fun e he => by
  obtain ⟨m, hm, rfl⟩ := List.mem_map.1 he
  exact CallvSpec.of (Tryd.call62) (s62 K C (hE m hm) hp hq)
theorem s56 (K : WO g h bw k fv firm w V F) (C : CInv N w) {m : Nat × Nat} (hm : m.1 < N ∧ m.2 < N) {v bp bq : Nat} (hp : Reads h (adr bp) [pW bw]) (hq : Reads h (adr bq) [natV v]) :
    CallsA Tryd.prog 56 (fun _ => [.agg #[natV m.1, natV m.2], .pointer (some (adr bp)), .pointer (some (adr bq))]) [] h (Ret fun r h' => h' = h ∧ r = .bool (w.at_ v m)) := by
  refine c56 (G := [natV m.1, natV m.2, .pointer (some (adr bp)), .pointer (some (adr bq))]) ⟨⟨_, rfl⟩, ⟨_, rfl⟩, ⟨_, rfl⟩, ⟨_, rfl⟩, trivial⟩ ?_
  refine h_load [pW bw] ⟨⟨_, rfl⟩, trivial⟩ (fun _ => hp) (h_load [natV v] ⟨⟨_, rfl⟩, trivial⟩ (fun _ => hq) ?_)
  simp only [List.cons_append, List.nil_append]
  refine h_call0 (s49 K C hm.1) ?_
  rintro _ h1 ⟨e1, rfl⟩
  have e1' := e1.symm
  subst e1'
  refine ⟨[natV (w.of m.1)], ⟨⟨_, rfl⟩, trivial⟩, rfl, fun _ => hq, h_load [pW bw] ⟨⟨_, rfl⟩, trivial⟩ (fun _ => hp) (h_load [natV v] ⟨⟨_, rfl⟩, trivial⟩ (fun _ => hq) (h_ite (fun hc => ?_) (fun hc => ?_)))⟩
  · replace hc : (!cmpOp .eql ((w.of m.1 : Nat) : Int) (v : Int)) = true := hc
    rw [cmp_eql, Bool.not_eq_true', decide_eq_false_iff_not] at hc
    have hne : w.of m.1 ≠ v := fun q => hc (by rw [q])
    simp only [List.cons_append, List.nil_append]
    refine h_call0 (s49 K C hm.2) ?_
    rintro _ h1 ⟨e1, rfl⟩
    have e1' := e1.symm
    subst e1'
    refine ⟨[natV (w.of m.2)], ⟨⟨_, rfl⟩, trivial⟩, rfl, fun _ => hq, fun _ => hq, rfl, rfl, ?_⟩
    show Value.bool (cmpOp .eql ((w.of m.2 : Nat) : Int) (v : Int)) = .bool (decide (w.of m.1 = v) || decide (w.of m.2 = v))
    rw [cmp_eql, decide_eq_false hne, Bool.false_or]
    congr 1
    exact decide_eq_decide.2 (by omega)
  · replace hc : (!cmpOp .eql ((w.of m.1 : Nat) : Int) (v : Int)) = false := hc
    rw [cmp_eql, Bool.not_eq_false', decide_eq_true_eq] at hc
    have he : w.of m.1 = v := by omega
    refine ⟨fun _ => hq, rfl, rfl, ?_⟩
    show Value.bool true = .bool (decide (w.of m.1 = v) || decide (w.of m.2 = v))
    rw [decide_eq_true he]; rfl
theorem cv_freeze (K : WO g h bw k fv firm w V F) (C : CInv N w) {v bp bq : Nat} (hp : Reads h (adr bp) [pW bw]) (hq : Reads h (adr bq) [natV v]) {E : List (Nat × Nat)} (hE : ∀ m ∈ E, m.1 < N ∧ m.2 < N) :
    ∀ e ∈ edI E, CallvSpec Tryd.prog h (.func (.func 56) #[] #[.pointer (some (adr bp)), .pointer (some (adr bq))]) [.agg #[.int .i64 e.1, .int .i64 e.2]] fun r h' => h' = h ∧ r = .bool (w.at_ v (e.1.toNat, e.2.toNat)) := fun e he => by
  obtain ⟨m, hm, rfl⟩ := List.mem_map.1 he
  exact CallvSpec.of (Tryd.call56) (s56 K C (hE m hm) hp hq)
theorem s57 (K : WO g h bw k fv firm w V F) (C : CInv N w) {m : Nat × Nat} (hm : m.1 < N ∧ m.2 < N) {v bp bq : Nat} (hp : Reads h (adr bp) [pW bw]) (hq : Reads h (adr bq) [natV v]) :
    CallsA Tryd.prog 57 (fun _ => [.agg #[natV m.1, natV m.2], .pointer (some (adr bp)), .pointer (some (adr bq))]) [] h (Ret fun r h' => h' = h ∧ r = .bool (w.at_ v m)) := by
  refine c57 (G := [natV m.1, natV m.2, .pointer (some (adr bp)), .pointer (some (adr bq))]) ⟨⟨_, rfl⟩, ⟨_, rfl⟩, ⟨_, rfl⟩, ⟨_, rfl⟩, trivial⟩ ?_
  refine h_load [pW bw] ⟨⟨_, rfl⟩, trivial⟩ (fun _ => hp) (h_load [natV v] ⟨⟨_, rfl⟩, trivial⟩ (fun _ => hq) ?_)
  simp only [List.cons_append, List.nil_append]
  refine h_call0 (s49 K C hm.1) ?_
  rintro _ h1 ⟨e1, rfl⟩
  have e1' := e1.symm
  subst e1'
  refine ⟨[natV (w.of m.1)], ⟨⟨_, rfl⟩, trivial⟩, rfl, fun _ => hq, h_load [pW bw] ⟨⟨_, rfl⟩, trivial⟩ (fun _ => hp) (h_load [natV v] ⟨⟨_, rfl⟩, trivial⟩ (fun _ => hq) (h_ite (fun hc => ?_) (fun hc => ?_)))⟩
  · replace hc : (!cmpOp .eql ((w.of m.1 : Nat) : Int) (v : Int)) = true := hc
    rw [cmp_eql, Bool.not_eq_true', decide_eq_false_iff_not] at hc
    have hne : w.of m.1 ≠ v := fun q => hc (by rw [q])
    simp only [List.cons_append, List.nil_append]
    refine h_call0 (s49 K C hm.2) ?_
    rintro _ h1 ⟨e1, rfl⟩
    have e1' := e1.symm
    subst e1'
    refine ⟨[natV (w.of m.2)], ⟨⟨_, rfl⟩, trivial⟩, rfl, fun _ => hq, fun _ => hq, rfl, rfl, ?_⟩
    show Value.bool (cmpOp .eql ((w.of m.2 : Nat) : Int) (v : Int)) = .bool (decide (w.of m.1 = v) || decide (w.of m.2 = v))
    rw [cmp_eql, decide_eq_false hne, Bool.false_or]
    congr 1
    exact decide_eq_decide.2 (by omega)
  · replace hc : (!cmpOp .eql ((w.of m.1 : Nat) : Int) (v : Int)) = false := hc
    rw [cmp_eql, Bool.not_eq_false', decide_eq_true_eq] at hc
    have he : w.of m.1 = v := by omega
    refine ⟨fun _ => hq, rfl, rfl, ?_⟩
    show Value.bool true = .bool (decide (w.of m.1 = v) || decide (w.of m.2 = v))
    rw [decide_eq_true he]; rfl
theorem cv_spill (K : WO g h bw k fv firm w V F) (C : CInv N w) {v bp bq : Nat} (hp : Reads h (adr bp) [pW bw]) (hq : Reads h (adr bq) [natV v]) {E : List (Nat × Nat)} (hE : ∀ m ∈ E, m.1 < N ∧ m.2 < N) :
    ∀ e ∈ edI E, CallvSpec Tryd.prog h (.func (.func 57) #[] #[.pointer (some (adr bp)), .pointer (some (adr bq))]) [.agg #[.int .i64 e.1, .int .i64 e.2]] fun r h' => h' = h ∧ r = .bool (w.at_ v (e.1.toNat, e.2.toNat)) := fun e he => by
  obtain ⟨m, hm, rfl⟩ := List.mem_map.1 he
  exact CallvSpec.of (Tryd.call57) (s57 K C (hE m hm) hp hq)

theorem WO.mvAt (K : WO g h bw k fv firm w V F) : EdgesAt h V.moves (edI w.moves) := rowF_edges K.moves
theorem edI_len (E : List (Nat × Nat)) : (edI E).length = E.length := by unfold edI; simp
theorem any_edI {E : List (Nat × Nat)} {f : Nat × Nat → Bool} : ((edI E).any fun e => f (e.1.toNat, e.2.toNat)) = E.any f := by
  unfold edI; rw [List.any_map]; rfl
theorem reads_one {h : H} {b : Nat} {x : Value} {e : TypeId} : Reads (h.put b (.cells [x].toArray e (0, 0))) (adr b) [x] := by
  have := reads_cell (h := h) (b := b) (l := [x]) (e := e) (i := 0) (x := x) rfl
  exact this
theorem s47 (K : WO g h bw k fv firm w V F) (C : CInv N w) (hz : Szs N w) {v : Nat} :
    CallsA Tryd.prog 47 (fun _ => [pW bw, natV v]) [] h (Ret fun r h' => h.le h' ∧ r = .bool (w.moving v)) := by
  refine c47 (G := [pW bw, natV v]) ⟨⟨_, rfl⟩, ⟨_, rfl⟩, trivial⟩ ?_
  intro bp hbp
  have l1 := H.le_put (o := .cells ([pW bw] : List Value).toArray 63 (0, 0)) hbp
  have r1 : Reads (h.put bp (.cells ([pW bw] : List Value).toArray 63 (0, 0))) (adr bp) [pW bw] := reads_one
  show holds _ _ _ _ _ (h.put bp (.cells ([pW bw] : List Value).toArray 63 (0, 0)))
  generalize h.put bp (.cells ([pW bw] : List Value).toArray 63 (0, 0)) = h1 at l1 r1
  intro bq hbq
  have l2 := H.le_put (o := .cells ([natV v] : List Value).toArray 3 (0, 0)) hbq
  have r2 : Reads (h1.put bq (.cells ([natV v] : List Value).toArray 3 (0, 0))) (adr bq) [natV v] := reads_one
  show holds _ _ _ _ _ (h1.put bq (.cells ([natV v] : List Value).toArray 3 (0, 0)))
  generalize h1.put bq (.cells ([natV v] : List Value).toArray 3 (0, 0)) = h2 at l2 r2
  have hl := l1.trans l2
  have K2 := K.grow hl
  have r1' := r1.le l2
  show holds _ _ _ [pW bw, natV v, .pointer (some (adr bp)), .pointer (some (adr bq))] [] h2
  refine h_load [pW bw] ⟨⟨_, rfl⟩, trivial⟩ (fun _ => r1') ⟨fun _ => ⟨rfl, trivial⟩, h_load [V.moves] ⟨K2.mvAt.fit, trivial⟩ (fun _ => K2.rd (j := 3) rfl) ?_⟩
  simp only [List.cons_append, List.nil_append]
  have hcf := s41 (f := fun e => w.at_ v (e.1.toNat, e.2.toNat)) K2.mvAt (by rw [edI_len]; exact hz.2) (.inr ⟨_, _, _, rfl⟩) (cv_moving K2 C r1' r2 C.mv)
  refine h_call0 hcf ?_
  rintro _ h3 ⟨e3, rfl⟩
  refine ⟨[.bool _], ⟨⟨_, rfl⟩, trivial⟩, rfl, rfl, by rw [e3]; exact hl, ?_⟩
  show Value.bool ((edI w.moves).any fun e => w.at_ v (e.1.toNat, e.2.toNat)) = _
  rw [any_edI]; rfl

/-! ### The set of those that are left -/
theorem WO.cutLeft (K : WO g h bw k fv firm w V F) {x : Nat} (hx : x < 4096) :
    CallsA Tryd.prog 54 (fun _ => [.pointer (some ⟨bw, 5, none⟩), natV x]) [] h (Ret fun r h' => r = .bool (w.left x) ∧ WOx g h' bw k fv firm { w with left := cutP w.left x }) := by
  obtain ⟨o, wo, eo, ho1, ho2⟩ := K.left
  obtain rfl : V.left = o := by simpa using eo
  have hag : Agree h (H.cut h [bw]) (F 5) := cut_agree fun b hb hb' => K.bw_ne (by decide) hb (by simpa using hb')
  refine (CallsA.lend (A := [natV k, fv, V.near, V.moves, V.st]) (C := [V.stack]) (M := [V.left]) rfl K.obj (s54k (ho1.agree hag) hx)).mono ?_
  rintro r cs h' ⟨rfl, M', h1, -, ⟨c, ec, rfl, ws', rfl, q1, q2, q3⟩, hn, rfl⟩
  obtain rfl : M' = [V.left] := by simpa using ec
  refine ⟨rfl, by rw [ho2], ?_⟩
  have := K.setLeft (h1 := h1) (v' := V.left) (p := hasW ws') (f' := F 5) q3 ⟨_, ws', rfl, q1, rfl⟩ (fun b hb => .inl hb) hn
  rw [q2, ho2] at this
  exact this
theorem WO.putLeft (K : WO g h bw k fv firm w V F) {x : Nat} (hx : x < 4096) :
    CallsA Tryd.prog 32 (fun _ => [.pointer (some ⟨bw, 5, none⟩), natV x]) [] h (Ret fun r h' => (∃ b, r = .bool b) ∧ WOx g h' bw k fv firm { w with left := insP w.left x }) := by
  obtain ⟨o, wo, eo, ho1, ho2⟩ := K.left
  obtain rfl : V.left = o := by simpa using eo
  have hag : Agree h (H.cut h [bw]) (F 5) := cut_agree fun b hb hb' => K.bw_ne (by decide) hb (by simpa using hb')
  refine (CallsA.lend (A := [natV k, fv, V.near, V.moves, V.st]) (C := [V.stack]) (M := [V.left]) rfl K.obj (s32k (ho1.agree hag) hx)).mono ?_
  rintro r cs h' ⟨rfl, M', h1, -, ⟨c, ec, rfl, v', ws', fp', rfl, q1, q2, q3, q4⟩, hn, rfl⟩
  obtain rfl : M' = [v'] := by simpa using ec
  refine ⟨rfl, ⟨_, rfl⟩, ?_⟩
  have := K.setLeft (h1 := h1) (v' := v') (p := hasW ws') (f' := fp') q3 ⟨_, ws', rfl, q1, rfl⟩ q4 hn
  have e : hasW ws' = insP w.left x := by funext y; rw [q2, ho2]; rfl
  rw [e] at this
  exact this
theorem zero_int' : ((zeroCells Tryd.prog 3).getD []).length = 1 := by kernel_rfl
theorem s48 (K : WO g h bw k fv firm w V F) (hN : N ≤ 4096) (hz : Szs N w) {v : Nat} (hv : v < 4096) :
    CallsA Tryd.prog 48 (fun _ => [pW bw, natV v]) [] h (Ret fun r h' => r = .tuple #[] ∧ WOx g h' bw k fv firm (w.push v)) := by
  refine c48 (G := [pW bw, natV v]) ⟨⟨_, rfl⟩, ⟨_, rfl⟩, trivial⟩ ?_
  refine h_call0 (K.cutLeft hv) ?_
  rintro _ h1 ⟨rfl, V1, F1, K1⟩
  refine ⟨[.bool (w.left v)], ⟨⟨_, rfl⟩, trivial⟩, rfl, ?_⟩
  simp only [List.cons_append, List.nil_append]
  have hsl : vlen V1.stack = w.stack.length := by have := len_of_rowF K1.stack; rw [List.length_map] at this; exact this
  refine h_load [V1.stack] ⟨K1.stack.row0.fit, trivial⟩ (fun _ => K1.rd (j := 6) rfl) ⟨[natV v], 1, ⟨rfl, rfl⟩, ?_⟩
  show AppSpec _ _ _ _ _ V1.stack _ _ _
  refine app_rowF K1.stack rfl zero_int' (by rw [hsl]; have := hz.1; omega) fun v' h2 f2 m1 m2 m3 m4 => ?_
  have e : (w.stack.map natV) ++ [natV v] = (w.stack ++ [v]).map natV := by rw [List.map_append]; rfl
  have m1' : RowF h2 3 1 v' ((w.stack ++ [v]).map natV) f2 := by rw [← e]; exact m1
  obtain ⟨c1, c2⟩ := K1.setStack (v' := v') (s' := w.stack ++ [v]) m3 m1' fun b hb => by
    rcases m4 with rfl | ⟨b', rfl, hb'⟩
    · exact .inl hb
    · rw [List.mem_singleton] at hb; subst hb; exact .inr hb'
  exact h_store (Addr.add ⟨bw, 0, none⟩ 6) [v'] rfl rfl c1 ⟨rfl, rfl, c2⟩

/-! ### A vreg that finds a register whatever others get -/
theorem h_still {P : Program} {R : Value → List (List Value) → H → Prop} {G : List Value} {L : Lv} {h : H} {c : X} {p : PE} {l : List SV} {k : Out} (h1 : Reads h (p.den G) (SV.denL G dE l)) (h2 : holds P R k G L h) : holds P R (.still c p l k) G L h := ⟨fun _ => h1, h2⟩
theorem allS_le (p : SP) : (allS p).length ≤ 4096 := by
  unfold allS
  have := List.length_filter_le p (List.range 4096)
  rw [List.length_range] at this; exact this
theorem at_nat {l : List Nat} {i : Nat} (hi : i < l.length) : ∃ x : Nat, l[i]? = some x ∧ x ∈ l ∧ (l.map Int.ofNat)[i]? = some (x : Int) :=
  ⟨l[i], List.getElem?_eq_getElem hi, List.getElem_mem _, by rw [List.getElem?_map, List.getElem?_eq_getElem hi]; rfl⟩
theorem s33 (ht : Tab g) (K : WO g h bw k fv firm w V F) (C : CInv N w) (hz : Szs N w) :
    CallsA Tryd.prog 33 (fun _ => [pW bw]) [] h (Ret fun r h' => (∃ w', w.simp k = some w' ∧ r = .bool true ∧ WOx g h' bw k fv firm w') ∨ w.simp k = none ∧ r = .bool false ∧ WOx g h' bw k fv firm w) := by
  refine c33 (G := [pW bw]) ⟨⟨_, rfl⟩, trivial⟩ ?_
  refine h_load [V.left] ⟨SetF.fit1 K.left, trivial⟩ (fun _ => K.rd (j := 5) rfl) ?_
  simp only [List.cons_append, List.nil_append]
  refine h_call0 (sAllS (Tab.le K.wf.le ht) (setF_at K.left)) ?_
  rintro vl h1 ⟨l1, hall⟩
  have hil := hall.ints.len
  rw [List.length_map] at hil
  have hA := hall.ints
  refine ⟨[vl], ⟨hA.fit, trivial⟩, rfl, ?_⟩
  simp only [List.cons_append, List.nil_append]
  have hlen := allS_le w.left
  refine h_range (n := (allS w.left).length) (fun i h' => h1.le h' ∧ ∀ j y, j < i → (allS w.left)[j]? = some y → (decide (w.deg y < k) && !w.moving y) = false) hil (by omega) rfl (by omega) ⟨H.le_refl _, fun j y hj => absurd hj (Nat.not_lt_zero _)⟩ ?_ ?_
  · rintro i h2 J hi ⟨l2, hp⟩ hJ
    obtain ⟨x, hx, hxm, hxI⟩ := at_nat hi
    have hx2 := mem_allS.1 hxm
    have hxN := C.leftN x hx2.2
    have K2 := K.grow (l1.trans l2)
    refine h_load [natV x] ⟨⟨_, rfl⟩, trivial⟩ (fun _ => (hA.le l2).read hxI) (h_load [natV k] ⟨⟨_, rfl⟩, trivial⟩ (fun _ => K2.rd (j := 0) rfl) ?_)
    simp only [List.cons_append, List.nil_append]
    refine h_call0 (s46 K2 C hxN) ?_
    rintro _ h3 ⟨l3, rfl⟩
    have K3 := K2.grow l3
    refine ⟨[natV (w.deg x)], ⟨⟨_, rfl⟩, trivial⟩, rfl, h_still (K3.rd (j := 0) rfl) (h_ite (fun hc => ?_) (fun hc => ?_))⟩
    · replace hc : cmpOp .lss ((w.deg x : Nat) : Int) (k : Int) = true := hc
      rw [cmp_lss, decide_eq_true_eq] at hc
      simp only [List.cons_append, List.nil_append]
      refine h_call0 (s47 (v := x) K3 C hz) ?_
      rintro _ h4 ⟨l4, rfl⟩
      have K4 := K3.grow l4
      refine ⟨[.bool (w.moving x)], ⟨⟨_, rfl⟩, trivial⟩, rfl, h_still (K4.rd (j := 0) rfl) (h_ite (fun hd => ?_) (fun hd => ?_))⟩
      · replace hd : (!w.moving x) = true := hd
        simp only [List.cons_append, List.nil_append]
        refine h_call0 (s48 K4 C.hN hz hx2.1) ?_
        rintro _ h5 ⟨rfl, K5⟩
        refine ⟨[], trivial, rfl, rfl, .inl ⟨w.push x, ?_, rfl, K5⟩⟩
        unfold CW.simp
        rw [find_at hx (by rw [hd, decide_eq_true (by omega)]; rfl) hp]; rfl
      · replace hd : (!w.moving x) = false := hd
        exact hJ _ ⟨l2.trans (l3.trans l4), none_upto hp hx (by rw [hd, Bool.and_false])⟩
    · replace hc : cmpOp .lss ((w.deg x : Nat) : Int) (k : Int) = false := hc
      rw [cmp_lss, decide_eq_false_iff_not] at hc
      exact h_still (K3.rd (j := 0) rfl) (hJ _ ⟨l2.trans l3, none_upto hp hx (by rw [decide_eq_false (by omega)]; rfl)⟩)
  · rintro h2 J ⟨l2, hp⟩
    refine ⟨rfl, .inr ⟨?_, rfl, V, F, K.grow (l1.trans l2)⟩⟩
    unfold CW.simp
    rw [find_no hp]; rfl
end
end Go.Proofs.YtbgfabppmobpgaaDoor
