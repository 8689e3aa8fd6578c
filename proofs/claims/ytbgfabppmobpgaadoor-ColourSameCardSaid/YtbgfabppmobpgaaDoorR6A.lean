/-
  Graphs: what is right, what fits, what they are made of. Conditions: as each contract says.
-/
import Derived.Test.YtbgfabppmobpgaaDoorR5T
import Derived.Test.YtbgfabppmobpgaaDoorR6P
set_option linter.unusedVariables false
set_option linter.unusedSimpArgs false
namespace Go.Proofs.YtbgfabppmobpgaaDoor
open Go

def EdgeC (_ : H) (cs : List Value) (e : Int × Int) : Prop := cs = [.int .i64 e.1, .int .i64 e.2]
theorem edgeC_mono : Mono EdgeC := fun _ _ _ _ _ h => h
abbrev EdgesAt := SlAt 2 EdgeC
theorem EdgesAt.le {h h' : H} (hl : h.le h') {v : Value} {E : EdgeL} (K : EdgesAt h v E) : EdgesAt h' v E := SlAt.le edgeC_mono hl K
theorem EdgesAt.read {h : H} {v : Value} {E : EdgeL} (K : EdgesAt h v E) {i : Nat} {e : Int × Int} (hi : E[i]? = some e) : Reads h ((vaddr v).add (i * 2)) [.int .i64 e.1, .int .i64 e.2] := by
  obtain ⟨cs, rfl, h2⟩ := K.get i e hi; exact h2
theorem reads_part {h : H} {a : Addr} {A B C : List Value} {o : Nat} (k : Reads h a (A ++ B ++ C)) (ho : A.length = o) : Reads h (a.add o) B := by
  intro j v hj
  rw [add_add, ← ho]
  refine k _ v ?_
  have := (List.getElem?_eq_some_iff.1 hj).1
  rw [List.getElem?_append_left (by rw [List.length_append]; omega), List.getElem?_append_right (by omega), Nat.add_sub_cancel_left]; exact hj
theorem EdgesAt.readA {h : H} {v : Value} {E : EdgeL} (K : EdgesAt h v E) {i : Nat} {e : Int × Int} (hi : E[i]? = some e) : Reads h (((vaddr v).add (i * 2)).add 0) [.int .i64 e.1] := reads_part (A := []) (C := [.int .i64 e.2]) (K.read hi) rfl
theorem EdgesAt.readB {h : H} {v : Value} {E : EdgeL} (K : EdgesAt h v E) {i : Nat} {e : Int × Int} (hi : E[i]? = some e) : Reads h (((vaddr v).add (i * 2)).add 1) [.int .i64 e.2] := reads_part (A := [.int .i64 e.1]) (C := []) (K.read hi) rfl
theorem int_sub_one {j : Nat} (hj : j < 4000000000000000000) : intOp .sub .i64 ((j + 1 : Nat) : Int) 1 = (j : Int) := by
  simp only [intOp]
  rw [wrap_i64 (by omega) (by omega)]; omega
/-- An edge is right where it stands. -/
def okE (N : Int) (E : EdgeL) (i : Nat) : Bool :=
  match E[i]? with
  | none => true
  | some e => decide (0 ≤ e.1) && decide (e.1 < e.2) && decide (e.2 < N) && (match i with | 0 => true | j + 1 => match E[j]? with | none => true | some p => decide (p.1 < e.1 ∨ p.1 = e.1 ∧ p.2 < e.2))
def rightE (N : Int) (E : EdgeL) : Bool := (List.range E.length).all (okE N E)
theorem rightE_true {N : Int} {E : EdgeL} (h : ∀ j, j < E.length → okE N E j = true) : rightE N E = true := by
  unfold rightE; rw [List.all_eq_true]; exact fun j hj => h j (List.mem_range.1 hj)
theorem rightE_false {N : Int} {E : EdgeL} {j : Nat} (hj : j < E.length) (h : okE N E j = false) : rightE N E = false := by
  unfold rightE; rw [List.all_eq_false]; exact ⟨j, List.mem_range.2 hj, by simp [h]⟩
theorem rightE_at {N : Int} {E : EdgeL} (h : rightE N E = true) {j : Nat} (hj : j < E.length) : okE N E j = true := by
  unfold rightE at h; rw [List.all_eq_true] at h; exact h j (List.mem_range.2 hj)
theorem all_upto {p : Nat → Bool} {i : Nat} (h : ∀ j, j < i → p j = true) (hi : p i = true) : ∀ j, j < i + 1 → p j = true := fun j hj => by
  by_cases e : j = i
  · rw [e]; exact hi
  · exact h j (by omega)
theorem okE_gen {N : Int} {E : EdgeL} {i : Nat} {e p : Int × Int} (he : E[i]? = some e) (hp : 0 < i → E[i - 1]? = some p) : okE N E i = (decide (0 ≤ e.1) && decide (e.1 < e.2) && decide (e.2 < N) && (decide (i = 0) || decide (p.1 < e.1 ∨ p.1 = e.1 ∧ p.2 < e.2))) := by
  unfold okE; rw [he]
  cases i with
  | zero => simp
  | succ j => have := hp (by omega); simp only [Nat.add_sub_cancel] at this; simp [this]
theorem prev_of (E : EdgeL) {i : Nat} (hi : i < E.length) : ∃ p : Int × Int, 0 < i → E[i - 1]? = some p := by
  by_cases h : 0 < i
  · exact ⟨E[i - 1], fun _ => List.getElem?_eq_getElem (by omega)⟩
  · exact ⟨(0, 0), fun q => absurd q h⟩
theorem and_l {a b : Bool} (h : (a && b) = true) : a = true := by cases a <;> simp_all
theorem and_r {a b : Bool} (h : (a && b) = true) : b = true := by cases b <;> simp_all
theorem gtr_pos {i : Nat} (h : cmpOp .gtr (i : Int) 0 = true) : 0 < i := by rw [cmp_gtr, decide_eq_true_eq] at h; omega
theorem int_pred {i : Nat} (h : 0 < i) (hi : i < 4000000000000000000) : intOp .sub .i64 (i : Int) 1 = ((i - 1 : Nat) : Int) := by
  obtain ⟨j, rfl⟩ : ∃ j, i = j + 1 := ⟨i - 1, by omega⟩
  rw [int_sub_one (by omega)]; rfl
theorem needSub {G : List Value} {v : Value} {q q' n i : Nat} (e1 : gv G q = .int .i64 (i : Int)) (e2 : gv G q' = v) (e3 : vlen v = n) (h0 : 0 < i) (hi : i < n) (hn : n ≤ 1000000) : needs G [(.cmp .geq (.op .sub .i64 (.var q) (.lit 1)) (.lit 0)), (.cmp .lss (.op .sub .i64 (.var q) (.lit 1)) (.len q'))] := by
  simp only [needs, X.den, e1, e2, e3, vb_bool, vi_int, and_true]
  rw [int_pred h0 (by omega)]
  exact ⟨ge0 _, ltN (by omega)⟩
theorem needIx {G : List Value} {v : Value} {q q' n i : Nat} (e1 : gv G q = .int .i64 (i : Int)) (e2 : gv G q' = v) (e3 : vlen v = n) (hi : i < n) : needs G [(.cmp .geq (.var q) (.lit 0)), (.cmp .lss (.var q) (.len q'))] := by
  simp only [needs, X.den, e1, e2, e3, vb_bool, vi_int, and_true]
  exact ⟨ge0 i, ltN hi⟩
section
variable {h : H} {v : Value} {E : EdgeL} {N : Int}
theorem s38 {ad : Addr} (hv : EdgesAt h v E) (hl : E.length ≤ 1000000) (hr : Reads h (ad.add 0) [.int .i64 N]) :
    CallsA Tryd.prog 38 (fun _ => [v, .pointer (some ad)]) [] h (Ret fun r h' => h' = h ∧ r = .bool (rightE N E)) := by
  refine c38 (G := [v, .pointer (some ad)]) ⟨hv.fit, ⟨_, rfl⟩, trivial⟩ ?_
  have hvl := hv.len
  refine h_range (n := E.length) (fun i h' => h' = h ∧ ∀ j, j < i → okE N E j = true) hvl (by omega) rfl (by omega) ⟨rfl, fun j hj => absurd hj (Nat.not_lt_zero _)⟩ ?_ ?_
  · rintro i h' J hi ⟨e, hp⟩ hJ
    have e' := e.symm
    subst e'
    have hx : E[i]? = some E[i] := List.getElem?_eq_getElem hi
    generalize E[i] = x at hx
    obtain ⟨p, hp1⟩ := prev_of E hi
    have hok := okE_gen (N := N) hx hp1
    have rA : 0 < i → Reads h (((vaddr v).add ((intOp .sub .i64 (i : Int) 1).toNat * 2)).add 0) [.int .i64 p.1] := fun h0 => by rw [int_pred h0 (by omega)]; exact hv.readA (hp1 h0)
    have rB : 0 < i → Reads h (((vaddr v).add ((intOp .sub .i64 (i : Int) 1).toNat * 2)).add 1) [.int .i64 p.2] := fun h0 => by rw [int_pred h0 (by omega)]; exact hv.readB (hp1 h0)
    have nS : 0 < i → ∀ D : List Value, needs (v :: .pointer (some ad) :: .int .i64 (i : Int) :: D) [(.cmp .geq (.op .sub .i64 (.var 2) (.lit 1)) (.lit 0)), (.cmp .lss (.op .sub .i64 (.var 2) (.lit 1)) (.len 0))] := fun h0 D => needSub rfl rfl hvl h0 hi hl
    refine h_load [.int .i64 x.1, .int .i64 x.2] ⟨⟨_, rfl⟩, ⟨_, rfl⟩, trivial⟩ (fun _ => hv.read hx) (h_load [.int .i64 N] ⟨⟨_, rfl⟩, trivial⟩ (fun _ => hr) ⟨fun q => nS (gtr_pos (and_r q)) _,
        h_load [.int .i64 p.1] ⟨⟨_, rfl⟩, trivial⟩ (fun q => rA (gtr_pos (and_r q))) ⟨fun q => nS (gtr_pos (and_r (and_l q))) _,
        h_load [.int .i64 p.1] ⟨⟨_, rfl⟩, trivial⟩ (fun q => rA (gtr_pos (and_r (and_l q)))) ⟨fun q => nS (gtr_pos (and_r (and_l (and_l q)))) _,
        h_load [.int .i64 p.2] ⟨⟨_, rfl⟩, trivial⟩ (fun q => rB (gtr_pos (and_r (and_l (and_l q))))) (h_ite (fun hc => ?_) (fun hc => ?_))⟩⟩⟩)
    · refine ⟨rfl, rfl, ?_⟩
      rw [rightE_false (j := i) hi ?_]
      · rfl
      · rw [hok]
        simp only [holds, X.den, PE.den, SV.den, SV.denL, NK.val, NK.sv, NK.pub, gv_zero, gv_succ, vi_int, vb_bool, vlen_sl, vaddr_ptr, vb_ite, vi_ite, cmp_eql, cmp_neq, cmp_lss, cmp_leq, cmp_gtr, cmp_geq, List.map_nil, List.map_cons, List.cons_append, List.nil_append, List.flatten_nil, needs, Ret, true_and, and_true, decide_eq_true_eq, forall_const, intOp] at hc
        grind
    · refine hJ _ ⟨rfl, all_upto hp ?_⟩
      rw [hok]
      simp only [holds, X.den, PE.den, SV.den, SV.denL, NK.val, NK.sv, NK.pub, gv_zero, gv_succ, vi_int, vb_bool, vlen_sl, vaddr_ptr, vb_ite, vi_ite, cmp_eql, cmp_neq, cmp_lss, cmp_leq, cmp_gtr, cmp_geq, List.map_nil, List.map_cons, List.cons_append, List.nil_append, List.flatten_nil, needs, Ret, true_and, and_true, decide_eq_true_eq, forall_const, intOp] at hc
      grind
  · rintro h' J ⟨e, hp⟩
    exact ⟨rfl, e, by rw [rightE_true hp]; rfl⟩
theorem s29 (hv : EdgesAt h v E) (hl : E.length ≤ 1000000) :
    CallsA Tryd.prog 29 (fun _ => [v, .int .i64 N]) [] h (Ret fun r h' => h' = h ∧ r = .bool (rightE N E)) := by
  refine c29 (G := [v, .int .i64 N]) ⟨hv.fit, ⟨_, rfl⟩, trivial⟩ ?_
  have hvl := hv.len
  refine h_range (n := E.length) (fun i h' => h' = h ∧ ∀ j, j < i → okE N E j = true) hvl (by omega) rfl (by omega) ⟨rfl, fun j hj => absurd hj (Nat.not_lt_zero _)⟩ ?_ ?_
  · rintro i h' J hi ⟨e, hp⟩ hJ
    have e' := e.symm
    subst e'
    have hx : E[i]? = some E[i] := List.getElem?_eq_getElem hi
    generalize E[i] = x at hx
    obtain ⟨p, hp1⟩ := prev_of E hi
    have hok := okE_gen (N := N) hx hp1
    have rA : 0 < i → Reads h (((vaddr v).add ((intOp .sub .i64 (i : Int) 1).toNat * 2)).add 0) [.int .i64 p.1] := fun h0 => by rw [int_pred h0 (by omega)]; exact hv.readA (hp1 h0)
    have rB : 0 < i → Reads h (((vaddr v).add ((intOp .sub .i64 (i : Int) 1).toNat * 2)).add 1) [.int .i64 p.2] := fun h0 => by rw [int_pred h0 (by omega)]; exact hv.readB (hp1 h0)
    have nS : 0 < i → ∀ D : List Value, needs (v :: .int .i64 N :: .int .i64 (i : Int) :: D) [(.cmp .geq (.op .sub .i64 (.var 2) (.lit 1)) (.lit 0)), (.cmp .lss (.op .sub .i64 (.var 2) (.lit 1)) (.len 0))] := fun h0 D => needSub rfl rfl hvl h0 hi hl
    have nI : ∀ D : List Value, needs (v :: .int .i64 N :: .int .i64 (i : Int) :: D) [(.cmp .geq (.var 2) (.lit 0)), (.cmp .lss (.var 2) (.len 0))] := fun D => needIx rfl rfl hvl hi
    have fi : ∀ n : Int, FitsL [.int .i64] [.int .i64 n] := fun n => ⟨⟨_, rfl⟩, trivial⟩
    refine h_load [.int .i64 x.1] (fi _) (fun _ => hv.readA hx) ⟨fun _ => nI _, h_load [.int .i64 x.2] (fi _) (fun _ => hv.readB hx) ⟨fun _ => nI _, h_load [.int .i64 x.1] (fi _) (fun _ => hv.readA hx) ⟨fun _ => nI _,
      h_load [.int .i64 x.2] (fi _) (fun _ => hv.readB hx) (h_ite (fun hc => ?_) (fun hc => ⟨fun _ => nI _, h_load [.int .i64 x.1] (fi _) (fun _ => hv.readA hx) ⟨fun q => nS (gtr_pos q) _, h_load [.int .i64 p.1] (fi _) (fun q => rA (gtr_pos q)) ⟨fun _ => nI _,
        h_load [.int .i64 x.1] (fi _) (fun _ => hv.readA hx) ⟨fun q => nS (gtr_pos (and_l q)) _, h_load [.int .i64 p.1] (fi _) (fun q => rA (gtr_pos (and_l q))) ⟨fun _ => nI _, h_load [.int .i64 x.2] (fi _) (fun _ => hv.readB hx) ⟨fun q => nS (gtr_pos (and_l (and_l q))) _,
          h_load [.int .i64 p.2] (fi _) (fun q => rB (gtr_pos (and_l (and_l q)))) (h_ite (fun hd => ?_) (fun hd => ?_))⟩⟩⟩⟩⟩⟩))⟩⟩⟩
    · refine ⟨rfl, rfl, ?_⟩
      rw [rightE_false (j := i) hi ?_]
      · rfl
      · rw [hok]
        simp only [holds, X.den, PE.den, SV.den, SV.denL, NK.val, NK.sv, NK.pub, gv_zero, gv_succ, vi_int, vb_bool, vlen_sl, vaddr_ptr, vb_ite, vi_ite, cmp_eql, cmp_neq, cmp_lss, cmp_leq, cmp_gtr, cmp_geq, List.map_nil, List.map_cons, List.cons_append, List.nil_append, List.flatten_nil, needs, Ret, true_and, and_true, decide_eq_true_eq, forall_const, intOp] at hc
        grind
    · refine ⟨rfl, rfl, ?_⟩
      rw [rightE_false (j := i) hi ?_]
      · rfl
      · rw [hok]
        simp only [holds, X.den, PE.den, SV.den, SV.denL, NK.val, NK.sv, NK.pub, gv_zero, gv_succ, vi_int, vb_bool, vlen_sl, vaddr_ptr, vb_ite, vi_ite, cmp_eql, cmp_neq, cmp_lss, cmp_leq, cmp_gtr, cmp_geq, List.map_nil, List.map_cons, List.cons_append, List.nil_append, List.flatten_nil, needs, Ret, true_and, and_true, decide_eq_true_eq, forall_const, intOp] at hc hd
        grind
    · refine hJ _ ⟨rfl, all_upto hp ?_⟩
      rw [hok]
      simp only [holds, X.den, PE.den, SV.den, SV.denL, NK.val, NK.sv, NK.pub, gv_zero, gv_succ, vi_int, vb_bool, vlen_sl, vaddr_ptr, vb_ite, vi_ite, cmp_eql, cmp_neq, cmp_lss, cmp_leq, cmp_gtr, cmp_geq, List.map_nil, List.map_cons, List.cons_append, List.nil_append, List.flatten_nil, needs, Ret, true_and, and_true, decide_eq_true_eq, forall_const, intOp] at hc hd
      grind
  · rintro h' J ⟨e, hp⟩
    exact ⟨rfl, e, by rw [rightE_true hp]; rfl⟩

/-! ### What is among them -/
theorem any_no {α : Type} {l : List α} {f : α → Bool} (h : ∀ j x, j < l.length → l[j]? = some x → f x = false) : l.any f = false := by
  rw [List.any_eq_false]
  intro x hx
  obtain ⟨j, hj⟩ := List.mem_iff_getElem?.1 hx
  rw [h j x (List.getElem?_eq_some_iff.1 hj).1 hj]; simp
theorem any_yes {α : Type} {l : List α} {f : α → Bool} {i : Nat} {x : α} (hx : l[i]? = some x) (hf : f x = true) : l.any f = true := List.any_eq_true.2 ⟨x, List.mem_of_getElem? hx, hf⟩
theorem none_upto {α : Type} {l : List α} {f : α → Bool} {i : Nat} {x : α} (h : ∀ j y, j < i → l[j]? = some y → f y = false) (hx : l[i]? = some x) (hf : f x = false) : ∀ j y, j < i + 1 → l[j]? = some y → f y = false := fun j y hj hy => by
  by_cases e : j = i
  · subst e; rw [hx] at hy; cases hy; exact hf
  · exact h j y (by omega) hy
def isE (a b : Int) (e : Int × Int) : Bool := decide (e.1 = a ∧ e.2 = b)
def hasE (E : EdgeL) (a b : Int) : Bool := E.any fun e => isE a b e || isE b a e
theorem s30 {a b : Int} (hv : EdgesAt h v E) (hl : E.length ≤ 1000000) :
    CallsA Tryd.prog 30 (fun _ => [v, .int .i64 a, .int .i64 b]) [] h (Ret fun r h' => h' = h ∧ r = .bool (hasE E a b)) := by
  refine c30 (G := [v, .int .i64 a, .int .i64 b]) ⟨hv.fit, ⟨_, rfl⟩, ⟨_, rfl⟩, trivial⟩ ?_
  have hvl := hv.len
  refine h_range (n := E.length) (fun i h' => h' = h ∧ ∀ j y, j < i → E[j]? = some y → (isE a b y || isE b a y) = false) hvl (by omega) rfl (by omega) ⟨rfl, fun j y hj => absurd hj (Nat.not_lt_zero _)⟩ ?_ ?_
  · rintro i h' J hi ⟨e, hp⟩ hJ
    have e' := e.symm
    subst e'
    have hx : E[i]? = some E[i] := List.getElem?_eq_getElem hi
    generalize E[i] = x at hx
    have nI : ∀ D : List Value, needs (v :: .int .i64 a :: .int .i64 b :: .int .i64 (i : Int) :: D) [(.cmp .geq (.var 3) (.lit 0)), (.cmp .lss (.var 3) (.len 0))] := fun D => needIx rfl rfl hvl hi
    have fi : ∀ n : Int, FitsL [.int .i64] [.int .i64 n] := fun n => ⟨⟨_, rfl⟩, trivial⟩
    refine h_load [.int .i64 x.1] (fi _) (fun _ => hv.readA hx) ⟨fun _ => nI _, h_load [.int .i64 x.2] (fi _) (fun _ => hv.readB hx) ⟨fun _ => nI _, h_load [.int .i64 x.1] (fi _) (fun _ => hv.readA hx) ⟨fun _ => nI _,
      h_load [.int .i64 x.2] (fi _) (fun _ => hv.readB hx) (h_ite (fun hc => ?_) (fun hc => ?_))⟩⟩⟩
    · refine ⟨rfl, rfl, ?_⟩
      have : hasE E a b = true := any_yes hx (by
        simp only [holds, X.den, PE.den, SV.den, SV.denL, NK.val, NK.sv, NK.pub, gv_zero, gv_succ, vi_int, vb_bool, vlen_sl, vaddr_ptr, vb_ite, vi_ite, cmp_eql, cmp_neq, cmp_lss, cmp_leq, cmp_gtr, cmp_geq, List.map_nil, List.map_cons, List.cons_append, List.nil_append, List.flatten_nil, needs, Ret, true_and, and_true, decide_eq_true_eq, forall_const, intOp] at hc
        unfold isE
        grind)
      rw [this]; rfl
    · refine hJ _ ⟨rfl, none_upto hp hx ?_⟩
      simp only [holds, X.den, PE.den, SV.den, SV.denL, NK.val, NK.sv, NK.pub, gv_zero, gv_succ, vi_int, vb_bool, vlen_sl, vaddr_ptr, vb_ite, vi_ite, cmp_eql, cmp_neq, cmp_lss, cmp_leq, cmp_gtr, cmp_geq, List.map_nil, List.map_cons, List.cons_append, List.nil_append, List.flatten_nil, needs, Ret, true_and, and_true, decide_eq_true_eq, forall_const, intOp] at hc
      unfold isE
      grind
  · rintro h' J ⟨e, hp⟩
    exact ⟨rfl, e, by rw [show hasE E a b = false from any_no hp]; rfl⟩
/-- The first of which it is true. -/
def FirstAt {α : Type} (l : List α) (f : α → Bool) (n : Int) : Prop := (∃ (i : Nat) (x : α), n = (i : Int) ∧ l[i]? = some x ∧ f x = true ∧ ∀ j y, j < i → l[j]? = some y → f y = false) ∨ n = -1 ∧ ∀ j y, j < l.length → l[j]? = some y → f y = false
theorem FirstAt.any {α : Type} {l : List α} {f : α → Bool} {n : Int} (k : FirstAt l f n) : cmpOp .geq n 0 = l.any f := by
  rcases k with ⟨i, x, rfl, h1, h2, h3⟩ | ⟨rfl, h1⟩
  · rw [any_yes h1 h2]; exact ge0 i
  · rw [any_no h1]; rfl
theorem s58 {a b : Int} (hv : EdgesAt h v E) (hl : E.length ≤ 1000000) :
    CallsA Tryd.prog 58 (fun _ => [v, .agg #[.int .i64 a, .int .i64 b]]) [] h (Ret fun r h' => h' = h ∧ ∃ n, r = .int .i64 n ∧ FirstAt E (isE a b) n) := by
  refine c58 (G := [v, .int .i64 a, .int .i64 b]) ⟨hv.fit, ⟨_, rfl⟩, ⟨_, rfl⟩, trivial⟩ ?_
  have hvl := hv.len
  refine h_range (n := E.length) (fun i h' => h' = h ∧ ∀ j y, j < i → E[j]? = some y → isE a b y = false) hvl (by omega) rfl (by omega) ⟨rfl, fun j y hj => absurd hj (Nat.not_lt_zero _)⟩ ?_ ?_
  · rintro i h' J hi ⟨e, hp⟩ hJ
    have e' := e.symm
    subst e'
    have hx : E[i]? = some E[i] := List.getElem?_eq_getElem hi
    generalize E[i] = x at hx
    refine h_load [.int .i64 x.1, .int .i64 x.2] ⟨⟨_, rfl⟩, ⟨_, rfl⟩, trivial⟩ (fun _ => hv.read hx) (h_ite (fun hc => ?_) (fun hc => ?_))
    · refine ⟨rfl, rfl, _, rfl, .inl ⟨i, x, rfl, hx, ?_, hp⟩⟩
      simp only [holds, X.den, PE.den, SV.den, SV.denL, NK.val, NK.sv, NK.pub, gv_zero, gv_succ, vi_int, vb_bool, vlen_sl, vaddr_ptr, vb_ite, vi_ite, cmp_eql, cmp_neq, cmp_lss, cmp_leq, cmp_gtr, cmp_geq, List.map_nil, List.map_cons, List.cons_append, List.nil_append, List.flatten_nil, needs, Ret, true_and, and_true, decide_eq_true_eq, forall_const, intOp] at hc
      unfold isE
      grind
    · refine hJ _ ⟨rfl, none_upto hp hx ?_⟩
      simp only [holds, X.den, PE.den, SV.den, SV.denL, NK.val, NK.sv, NK.pub, gv_zero, gv_succ, vi_int, vb_bool, vlen_sl, vaddr_ptr, vb_ite, vi_ite, cmp_eql, cmp_neq, cmp_lss, cmp_leq, cmp_gtr, cmp_geq, List.map_nil, List.map_cons, List.cons_append, List.nil_append, List.flatten_nil, needs, Ret, true_and, and_true, decide_eq_true_eq, forall_const, intOp] at hc
      unfold isE
      grind
  · rintro h' J ⟨e, hp⟩
    exact ⟨rfl, e, _, rfl, .inr ⟨rfl, hp⟩⟩
theorem s40 {a b : Int} (hv : EdgesAt h v E) (hl : E.length ≤ 1000000) :
    CallsA Tryd.prog 40 (fun _ => [v, .agg #[.int .i64 a, .int .i64 b]]) [] h (Ret fun r h' => h' = h ∧ r = .bool (E.any (isE a b))) := by
  refine c40 (G := [v, .int .i64 a, .int .i64 b]) ⟨hv.fit, ⟨_, rfl⟩, ⟨_, rfl⟩, trivial⟩ ?_
  refine h_call0 (s58 hv hl) ?_
  rintro _ h1 ⟨rfl, n, rfl, hn⟩
  exact ⟨[.int .i64 n], ⟨⟨_, rfl⟩, trivial⟩, rfl, rfl, rfl, congrArg Value.bool (FirstAt.any (f := isE a b) hn)⟩
theorem s39 {a b : Int} {ad : Addr} (hr : Reads h (ad.add 1) [v]) (hv : EdgesAt h v E) (hl : E.length ≤ 1000000) :
    CallsA Tryd.prog 39 (fun _ => [.agg #[.int .i64 a, .int .i64 b], .pointer (some ad)]) [] h (Ret fun r h' => h' = h ∧ r = .bool (E.any (isE a b))) := by
  refine c39 (G := [.int .i64 a, .int .i64 b, .pointer (some ad)]) ⟨⟨_, rfl⟩, ⟨_, rfl⟩, ⟨_, rfl⟩, trivial⟩ ?_
  refine h_load [v] ⟨hv.fit, trivial⟩ (fun _ => hr) (h_call0 (s40 hv hl) ?_)
  rintro _ h1 ⟨rfl, rfl⟩
  exact ⟨[.bool (E.any (isE a b))], ⟨⟨_, rfl⟩, trivial⟩, rfl, rfl, rfl, rfl⟩
theorem s59 {fv : Value} {f : Int × Int → Bool} (hv : EdgesAt h v E) (hl : E.length ≤ 1000000) (ff : Fits .fn fv) (hf : ∀ e ∈ E, CallvSpec Tryd.prog h fv [.agg #[.int .i64 e.1, .int .i64 e.2]] fun r h' => h' = h ∧ r = .bool (f e)) :
    CallsA Tryd.prog 59 (fun _ => [v, fv]) [] h (Ret fun r h' => h' = h ∧ ∃ n, r = .int .i64 n ∧ FirstAt E f n) := by
  refine c59 (G := [v, fv]) ⟨hv.fit, ff, trivial⟩ ?_
  have hvl := hv.len
  refine h_range (n := E.length) (fun i h' => h' = h ∧ ∀ j y, j < i → E[j]? = some y → f y = false) hvl (by omega) rfl (by omega) ⟨rfl, fun j y hj => absurd hj (Nat.not_lt_zero _)⟩ ?_ ?_
  · rintro i h' J hi ⟨e, hp⟩ hJ
    have e' := e.symm
    subst e'
    have hx : E[i]? = some E[i] := List.getElem?_eq_getElem hi
    generalize E[i] = x at hx
    refine h_load [.int .i64 x.1, .int .i64 x.2] ⟨⟨_, rfl⟩, ⟨_, rfl⟩, trivial⟩ (fun _ => hv.read hx) (h_callv (hf x (List.mem_of_getElem? hx)) ?_)
    rintro _ h2 ⟨e2, rfl⟩
    have e2' := e2.symm
    subst e2'
    refine ⟨[.bool (f x)], ⟨⟨_, rfl⟩, trivial⟩, rfl, h_ite (fun hc => ?_) (fun hc => ?_)⟩
    · exact ⟨rfl, rfl, _, rfl, .inl ⟨i, x, rfl, hx, hc, hp⟩⟩
    · exact hJ _ ⟨rfl, none_upto hp hx hc⟩
  · rintro h' J ⟨e, hp⟩
    exact ⟨rfl, e, _, rfl, .inr ⟨rfl, hp⟩⟩
theorem s41 {fv : Value} {f : Int × Int → Bool} (hv : EdgesAt h v E) (hl : E.length ≤ 1000000) (ff : Fits .fn fv) (hf : ∀ e ∈ E, CallvSpec Tryd.prog h fv [.agg #[.int .i64 e.1, .int .i64 e.2]] fun r h' => h' = h ∧ r = .bool (f e)) :
    CallsA Tryd.prog 41 (fun _ => [v, fv]) [] h (Ret fun r h' => h' = h ∧ r = .bool (E.any f)) := by
  refine c41 (G := [v, fv]) ⟨hv.fit, ff, trivial⟩ ?_
  refine h_call0 (s59 hv hl ff hf) ?_
  rintro _ h1 ⟨rfl, n, rfl, hn⟩
  exact ⟨[.int .i64 n], ⟨⟨_, rfl⟩, trivial⟩, rfl, rfl, rfl, congrArg Value.bool (FirstAt.any (f := f) hn)⟩
end
/-! ### Graphs -/
/-- A graph, handed in. -/
structure Gr where
  n : Int
  e : EdgeL
  m : EdgeL
def Gr.ok (g : Gr) : Bool := decide (0 ≤ g.n) && decide (g.n < 4096) && rightE g.n g.e && rightE g.n g.m && !(g.m.any fun x => g.e.any (isE x.1 x.2))
structure GrAt (h : H) (ve vm : Value) (g : Gr) : Prop where
  e : EdgesAt h ve g.e
  m : EdgesAt h vm g.m
  el : g.e.length ≤ 1000000
  ml : g.m.length ≤ 1000000
theorem GrAt.le {h h' : H} (hl : h.le h') {ve vm : Value} {g : Gr} (K : GrAt h ve vm g) : GrAt h' ve vm g := ⟨EdgesAt.le hl K.e, EdgesAt.le hl K.m, K.el, K.ml⟩
abbrev grV (g : Gr) (ve vm : Value) : Value := .agg #[.int .i64 g.n, ve, vm]
section
variable {h : H} {ve vm : Value} {g : Gr}
theorem reads_cell {h : H} {b : Nat} {l : List Value} {e : TypeId} {i : Nat} {x : Value} (hx : l[i]? = some x) : Reads (h.put b (.cells l.toArray e (0, 0))) (Addr.add ⟨b, 0, none⟩ i) [x] := by
  have := Reads.put (h := h) (b := b) (l := l) (e := e) (o := i) (cs := [x]) fun j v hj => by
    obtain ⟨rfl, rfl⟩ := get_one hj
    exact hx
  exact this
theorem s25 (K : GrAt h ve vm g) : CallsA Tryd.prog 25 (fun _ => [grV g ve vm]) [] h (Ret fun r h' => h.le h' ∧ r = .bool g.ok) := by
  refine c25 (G := [.int .i64 g.n, ve, vm]) ⟨⟨_, rfl⟩, K.e.fit, K.m.fit, trivial⟩ ?_
  intro b hb
  have hl := H.le_put (o := .cells ([.int .i64 g.n, ve, vm] : List Value).toArray 27 (0, 0)) hb
  obtain ⟨h1, e1⟩ : ∃ h1, h1 = h.put b (.cells ([.int .i64 g.n, ve, vm] : List Value).toArray 27 (0, 0)) := ⟨_, rfl⟩
  have r0 : Reads h1 (Addr.add ⟨b, 0, none⟩ 0) [.int .i64 g.n] := by rw [e1]; exact reads_cell rfl
  have r1 : Reads h1 (Addr.add ⟨b, 0, none⟩ 1) [ve] := by rw [e1]; exact reads_cell rfl
  have r2 : Reads h1 (Addr.add ⟨b, 0, none⟩ 2) [vm] := by rw [e1]; exact reads_cell rfl
  rw [← e1] at hl
  show holds _ _ _ _ _ (h.put b (.cells ([.int .i64 g.n, ve, vm] : List Value).toArray 27 (0, 0)))
  rw [← e1]
  have K1 := K.le hl
  have fi : ∀ n : Int, FitsL [.int .i64] [.int .i64 n] := fun n => ⟨⟨_, rfl⟩, trivial⟩
  have fb : ∀ x : Bool, FitsL [.bool] [.bool x] := fun n => ⟨⟨_, rfl⟩, trivial⟩
  have hcv : ∀ x ∈ g.m, CallvSpec Tryd.prog h1 (.func (.func 39) #[] #[.pointer (some ⟨b, 0, none⟩)]) [.agg #[.int .i64 x.1, .int .i64 x.2]] fun r h' => h' = h1 ∧ r = .bool (g.e.any (isE x.1 x.2)) := fun x _ =>
    CallvSpec.of (Tryd.call39) (s39 (ad := ⟨b, 0, none⟩) r1 K1.e K.el)
  have hcf := s41 (f := fun x => g.e.any (isE x.1 x.2)) K1.m K.ml (.inr ⟨_, _, _, rfl⟩) hcv
  clear hcv
  refine h_load [.int .i64 g.n] (fi _) (fun _ => r0) (h_load [.int .i64 g.n] (fi _) (fun _ => r0) (h_load [ve] ⟨K.e.fit, trivial⟩ (fun _ => r1) (h_ite (fun hc => ?_) (fun hc => ?_))))
  · simp only [holds, X.den, PE.den, SV.den, SV.denL, NK.val, NK.sv, NK.pub, gv_zero, gv_succ, vi_int, vb_bool, vlen_sl, vaddr_ptr, vb_ite, vi_ite, cmp_eql, cmp_neq, cmp_lss, cmp_leq, cmp_gtr, cmp_geq, List.map_nil, List.map_cons, List.cons_append, List.nil_append, List.flatten_nil, needs, Ret, true_and, and_true, decide_eq_true_eq, forall_const, intOp] at hc
    refine h_call0 (s38 K1.e K.el r0) ?_
    rintro _ h2 ⟨e2, rfl⟩
    have e2' := e2.symm
    subst e2'
    refine ⟨[.bool (rightE g.n g.e)], fb _, rfl, h_load [vm] ⟨K.m.fit, trivial⟩ (fun _ => r2) (h_ite (fun h3 => ?_) (fun h3 => ?_))⟩
    · replace h3 : rightE g.n g.e = true := h3
      refine h_call0 (s38 K1.m K.ml r0) ?_
      rintro _ h4 ⟨e4, rfl⟩
      have e4' := e4.symm
      subst e4'
      refine ⟨[.bool (rightE g.n g.m)], fb _, rfl, h_load [vm] ⟨K.m.fit, trivial⟩ (fun _ => r2) (h_ite (fun h5 => ?_) (fun h5 => ?_))⟩
      · replace h5 : rightE g.n g.m = true := h5
        refine h_call0 hcf ?_
        rintro _ h6 ⟨e6, rfl⟩
        refine ⟨[.bool _], fb _, rfl, rfl, by rw [e6]; exact hl, ?_⟩
        show Value.bool (!(g.m.any fun x => g.e.any (isE x.1 x.2))) = _
        have e0 : (decide (0 ≤ g.n) && decide (g.n < 4096)) = true := by grind
        unfold Gr.ok
        rw [h3, h5, e0]; simp
      · replace h5 : rightE g.n g.m = false := h5
        refine ⟨rfl, hl, ?_⟩
        unfold Gr.ok; rw [h5]; simp [SV.den, X.den]
    · replace h3 : rightE g.n g.e = false := h3
      refine ⟨rfl, hl, ?_⟩
      unfold Gr.ok; rw [h3]; simp [SV.den, X.den]
  · refine ⟨rfl, hl, ?_⟩
    simp only [holds, X.den, PE.den, SV.den, SV.denL, NK.val, NK.sv, NK.pub, gv_zero, gv_succ, vi_int, vb_bool, vlen_sl, vaddr_ptr, vb_ite, vi_ite, cmp_eql, cmp_neq, cmp_lss, cmp_leq, cmp_gtr, cmp_geq, List.map_nil, List.map_cons, List.cons_append, List.nil_append, List.flatten_nil, needs, Ret, true_and, and_true, decide_eq_true_eq, forall_const, intOp] at hc
    have : g.ok = false := by unfold Gr.ok; grind
    rw [this]; rfl
end
end Go.Proofs.YtbgfabppmobpgaaDoor
