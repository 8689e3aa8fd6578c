/-
  What is needed later, told by a search; that it is what flows. Conditions: as each contract says.
-/
import Derived.Test.YtbbicdfipheaeaaDoorR5N
import Derived.Test.YtbbicdfipheaeaaDoorR5Tn
set_option linter.unusedVariables false
set_option linter.unusedSimpArgs false
namespace Go.Proofs.YtbbicdfipheaeaaDoor
open Go

/-! ### Plain -/
def takenM (e : Fin4) (v : Int) : List Ins → Int
  | [] => if lastM e = true ∧ e.a = v then 1 else 0
  | x :: l => if v ∈ usesM x then 1 else if givesM x.kind = true ∧ x.d = v then 2 else takenM e v l
theorem foldr_taken {b : Blk} {p : SP} {v : Nat} : ∀ xs : List Ins, xs.foldr backP (topP b p) v = true ↔ takenM b.en v xs = 1 ∨ (takenM b.en v xs = 0 ∧ p v = true)
  | [] => by
    show (p v || (lastM b.en && decide (b.en.a = (v : Int)))) = true ↔ _
    unfold takenM
    by_cases h : lastM b.en = true ∧ b.en.a = (v : Int)
    · rw [if_pos h]; simp [h.1, h.2]
    · rw [if_neg h]
      have : (lastM b.en && decide (b.en.a = (v : Int))) = false := by
        cases h1 : lastM b.en with
        | false => rfl
        | true =>
          have : ¬ b.en.a = (v : Int) := fun q => h ⟨h1, q⟩
          simp [this]
      rw [this]; simp
  | x :: l => by
    have ih := foldr_taken (b := b) (p := p) (v := v) l
    show (((l.foldr backP (topP b p)) v && !(givesM x.kind && decide (x.d = (v : Int)))) || decide ((v : Int) ∈ usesM x)) = true ↔ _
    unfold takenM
    by_cases h1 : (v : Int) ∈ usesM x
    · rw [if_pos h1]; simp [h1]
    · rw [if_neg h1]
      by_cases h2 : givesM x.kind = true ∧ x.d = (v : Int)
      · rw [if_pos h2]; simp [h1, h2.1, h2.2]
      · rw [if_neg h2, ← ih]
        have : (givesM x.kind && decide (x.d = (v : Int))) = false := by
          cases h3 : givesM x.kind with
          | false => rfl
          | true =>
            have : ¬ x.d = (v : Int) := fun q => h2 ⟨h3, q⟩
            simp [this]
        rw [this]; simp [h1]
def tkB (B : List Blk) (v : Int) (b : Nat) : Int := match B[b]? with | some x => takenM x.en v x.ins | none => 0
theorem tkB_at {B : List Blk} {v : Int} {b : Nat} {x : Blk} (h : B[b]? = some x) : tkB B v b = takenM x.en v x.ins := by unfold tkB; rw [h]
/-- Needed at the beginning of a block. -/
inductive Nd (B : List Blk) (v : Int) : Nat → Prop
  | use {b : Nat} : b < B.length → tkB B v b = 1 → Nd B v b
  | on {b a : Nat} : b < B.length → tkB B v b = 0 → a ∈ nextN B b → Nd B v a → Nd B v b
theorem blkP_taken {B : List Blk} {b v : Nat} {p : SP} (hb : b < B.length) : blkP B b p v = true ↔ tkB B v b = 1 ∨ (tkB B v b = 0 ∧ p v = true) := by
  have hx := List.getElem?_eq_getElem hb
  rw [blkP_at hx, tkB_at hx]
  exact foldr_taken _
theorem way_nd {B : List Blk} (hO : OkB B) {v : Nat} {l : List SP} (h : Way (flV B) l) : ∀ {b : Nat} {x : SP}, l[b]? = some x → x v = true → ∃ a ∈ nextN B b, Nd B v a := by
  induction h with
  | first =>
    intro b x hx hn
    rw [List.getElem?_map, Option.map_eq_some_iff] at hx
    obtain ⟨c, h1, rfl⟩ := hx
    cases hn
  | @step l b a x y z hw hb ha hx hy hz ok ih =>
    intro c w hc hn
    rw [List.getElem?_set] at hc
    have hlt := (List.getElem?_eq_some_iff.1 hx).1
    by_cases e : b = c
    · subst e
      rw [if_pos rfl, if_pos hlt] at hc
      cases hc
      replace hn : (x v || blkP B a z v) = true := hn
      rw [Bool.or_eq_true] at hn
      rcases hn with hn | hn
      · exact ih hx hn
      · have haN := nextN_lt hO ha
        refine ⟨a, ha, ?_⟩
        rcases (blkP_taken haN).1 hn with q | ⟨q1, q2⟩
        · exact .use haN q
        · obtain ⟨a', h1, h2⟩ := ih hy (hz v q2)
          exact .on haN q1 h1 h2
    · rw [if_neg e] at hc
      exact ih hc hn
theorem nd_in {B : List Blk} (hO : OkB B) {v : Nat} {L : List SP} (K : Solved (flV B) L) {b : Nat} (h : Nd B v b) : ∀ {x : SP}, L[b]? = some x → blkP B b x v = true := by
  induction h with
  | use hb h1 => intro x hx; exact (blkP_taken hb).2 (.inl h1)
  | @on b a hb h1 h2 _ ih =>
    intro x hx
    have ha : a < L.length := by rw [K.len]; exact nextN_lt hO h2
    have hy := List.getElem?_eq_getElem ha
    refine (blkP_taken hb).2 (.inr ⟨h1, (eqV hO K hx v).2 ⟨a, _, h2, hy, ih hy⟩⟩)
theorem out_nd {B : List Blk} (hO : OkB B) {v : Nat} {L : List SP} (K : Solved (flV B) L) {b : Nat} {x : SP} (hx : L[b]? = some x) : x v = true ↔ ∃ a ∈ nextN B b, Nd B v a := by
  refine ⟨fun h => way_nd hO K.way hx h, fun ⟨a, h1, h2⟩ => ?_⟩
  have ha : a < L.length := by rw [K.len]; exact nextN_lt hO h1
  have hy := List.getElem?_eq_getElem ha
  exact (eqV hO K hx v).2 ⟨a, _, h1, hy, nd_in hO K h2 hy⟩
/-- Needed from an instruction on. -/
def NdAt (B : List Blk) (v : Int) (b : Nat) (t : Int) : Prop := t = 1 ∨ (t = 0 ∧ ∃ a ∈ nextN B b, Nd B v a)
theorem ndAt_zero {B : List Blk} {v : Int} {b : Nat} (hb : b < B.length) : NdAt B v b (tkB B v b) ↔ Nd B v b := by
  constructor
  · rintro (h | ⟨h, a, h1, h2⟩)
    · exact .use hb h
    · exact .on hb h h1 h2
  · intro h
    cases h with
    | use _ h => exact .inl h
    | on _ h h1 h2 => exact .inr ⟨h, _, h1, h2⟩
/-- Between two steps of the search. -/
structure Srch (B : List Blk) (v : Int) (b : Nat) (row : List Nat) (seen : List Bool) : Prop where
  len : seen.length = B.length
  lt : ∀ x ∈ row, x < B.length
  snd : ∀ x ∈ row, Nd B v x → ∃ a ∈ nextN B b, Nd B v a
  nx : ∀ x ∈ nextN B b, seen[x]? = some true ∨ x ∈ row
  no : ∀ x, seen[x]? = some true → tkB B v x ≠ 1 ∧ (tkB B v x = 0 → ∀ y ∈ nextN B x, seen[y]? = some true ∨ y ∈ row)
theorem Srch.begin {B : List Blk} (hO : OkB B) {v : Int} {b : Nat} : Srch B v b (nextN B b) (List.replicate B.length false) := by
  refine ⟨by simp, fun x hx => nextN_lt hO hx, fun x hx h => ⟨x, hx, h⟩, fun x hx => .inr hx, fun x hx => ?_⟩
  rw [List.getElem?_replicate] at hx
  split at hx <;> cases hx
theorem Srch.done {B : List Blk} {v : Int} {b : Nat} {seen : List Bool} (K : Srch B v b [] seen) : ¬ ∃ a ∈ nextN B b, Nd B v a := by
  have : ∀ {x}, Nd B v x → seen[x]? = some true → False := fun {x} h => by
    induction h with
    | use hb h1 => intro hs; exact (K.no _ hs).1 h1
    | on hb h1 h2 _ ih =>
      intro hs
      rcases (K.no _ hs).2 h1 _ h2 with q | q
      · exact ih q
      · cases q
  rintro ⟨a, h1, h2⟩
  rcases K.nx a h1 with q | q
  · exact this h2 q
  · cases q
theorem Srch.skip {B : List Blk} {v : Int} {b x : Nat} {row : List Nat} {seen : List Bool} (K : Srch B v b (x :: row) seen) (hx : seen[x]? = some true) : Srch B v b row seen := by
  have drop : ∀ {y}, seen[y]? = some true ∨ y ∈ x :: row → seen[y]? = some true ∨ y ∈ row := fun {y} h => by
    rcases h with q | q
    · exact .inl q
    · rcases List.mem_cons.1 q with rfl | q
      · exact .inl hx
      · exact .inr q
  exact ⟨K.len, fun y hy => K.lt y (List.mem_cons_of_mem _ hy), fun y hy => K.snd y (List.mem_cons_of_mem _ hy), fun y hy => drop (K.nx y hy), fun y hy => ⟨(K.no y hy).1, fun h z hz => drop ((K.no y hy).2 h z hz)⟩⟩
theorem Srch.more {B : List Blk} (hO : OkB B) {v : Int} {b x : Nat} {row : List Nat} {seen : List Bool} (K : Srch B v b (x :: row) seen) (h1 : tkB B v x ≠ 1) : Srch B v b (row ++ if tkB B v x = 0 then nextN B x else []) (seen.set x true) := by
  have hxl := K.lt x (List.mem_cons_self ..)
  have hxs : x < seen.length := by rw [K.len]; exact hxl
  have up : ∀ {y}, seen[y]? = some true ∨ y ∈ x :: row → (seen.set x true)[y]? = some true ∨ y ∈ row ++ if tkB B v x = 0 then nextN B x else [] := fun {y} h => by
    by_cases e : x = y
    · subst e; exact .inl (List.getElem?_set_self hxs)
    · rcases h with q | q
      · exact .inl (by rw [List.getElem?_set_ne e]; exact q)
      · rcases List.mem_cons.1 q with q | q
        · exact absurd q.symm e
        · exact .inr (List.mem_append_left _ q)
  refine ⟨by rw [List.length_set]; exact K.len, fun y hy => ?_, fun y hy hn => ?_, fun y hy => up (K.nx y hy), fun y hy => ?_⟩
  · rcases List.mem_append.1 hy with q | q
    · exact K.lt y (List.mem_cons_of_mem _ q)
    · split at q
      · exact nextN_lt hO q
      · cases q
  · rcases List.mem_append.1 hy with q | q
    · exact K.snd y (List.mem_cons_of_mem _ q) hn
    · split at q
      · rename_i h0
        exact K.snd x (List.mem_cons_self ..) (.on hxl h0 q hn)
      · cases q
  · by_cases e : x = y
    · subst e
      refine ⟨h1, fun h0 z hz => .inr (List.mem_append_right _ ?_)⟩
      rw [if_pos h0]; exact hz
    · rw [List.getElem?_set_ne e] at hy
      exact ⟨(K.no y hy).1, fun h z hz => up ((K.no y hy).2 h z hz)⟩

/-! ### The functions -/
theorem s63 {h : H} {w : Value} {b : Blk} {k : Nat} {v : Int} (hw : SlAt 7 InsC h w b.ins) (hk : k ≤ b.ins.length) (hl : b.ins.length ≤ 100000) (hr : ∀ x ∈ b.ins, x.args.length ≤ 10000) :
    CallsA Tryd.prog 63 (fun _ => [.agg (w :: endC b.en).toArray, natV k, .int .i64 v]) [] h (Ret fun r h' => h.le h' ∧ r = .int .i64 (takenM b.en v (b.ins.drop k))) := by
  refine c63 (G := [w, .int .u8 b.en.kind, .int .i64 b.en.a, .int .i64 b.en.to, .int .i64 b.en.el, natV k, .int .i64 v]) ⟨hw.fit, ⟨_, rfl⟩, ⟨_, rfl⟩, ⟨_, rfl⟩, ⟨_, rfl⟩, ⟨_, rfl⟩, ⟨_, rfl⟩, trivial⟩ ?_
  have hwl := hw.len
  refine h_loop (fun xs h' => ∃ i : Nat, xs = [natV i] ∧ i ≤ b.ins.length ∧ h.le h' ∧ takenM b.en v (b.ins.drop k) = takenM b.en v (b.ins.drop i)) (fun xs h' => b.ins.length - (vi (gv xs 0)).toNat) ⟨k, rfl, hk, H.le_refl _, rfl⟩ ?_
  rintro xs g J - ⟨i, rfl, hi, hle, he⟩ hJ
  simp only [List.cons_append, List.nil_append]
  refine h_ite (fun hc => ?_) (fun hc => ?_)
  · have hc' : cmpOp .lss (i : Int) ((vlen w : Nat) : Int) = true := hc
    replace hc := hc'
    rw [hwl, cmp_lss, decide_eq_true_eq] at hc
    have hil : i < b.ins.length := by omega
    have hx := List.getElem?_eq_getElem hil
    have hxm := List.getElem_mem hil
    have hd := List.drop_eq_getElem_cons hil
    generalize b.ins[i] = x at hx hxm hd
    rw [hd] at he
    obtain ⟨cs, ⟨q, rfl, hq⟩, hrd⟩ := hw.get i x hx
    have rd := hrd.le hle
    have cell : ∀ {o : Nat} {c : Value}, (insC x q)[o]? = some c → Reads g (((vaddr w).add (i * 7)).add o) [c] := fun {o c} ho j z hz => by
      obtain ⟨rfl, rfl⟩ := get_one hz
      have := rd o z ho
      rw [add_add, Nat.add_zero]; exact this
    have nd : ∀ D : List Value, needs (w :: .int .u8 b.en.kind :: .int .i64 b.en.a :: .int .i64 b.en.to :: .int .i64 b.en.el :: natV k :: .int .i64 v :: natV i :: D) [(.cmp .geq (.var 7) (.lit 0)), (.cmp .lss (.var 7) (.len 0))] := fun D => by
      simp only [needs, X.den, gv_zero, gv_succ, vi_int, vb_bool, and_true]
      exact ⟨ge0 i, hc'⟩
    refine ⟨fun _ => nd _, h_load (insC x q) (insFit x q hq.fit) (fun _ => rd) ?_⟩
    refine h_call0 (s72 x q (hq.le hle)) ?_
    rintro u g2 ⟨l2, hu⟩
    refine ⟨[u], ⟨hu.fit, trivial⟩, rfl, ?_⟩
    simp only [insC, List.cons_append, List.nil_append]
    refine h_call0 (s22 (n := v) hu (uses_len (hr x hxm))) ?_
    rintro _ g3 ⟨e3, rfl⟩
    have e3' := e3.symm
    subst e3'
    have hle2 := hle.trans l2
    refine ⟨[.bool (decide (v ∈ usesM x))], ⟨⟨_, rfl⟩, trivial⟩, rfl, h_ite (fun h16 => ?_) (fun h16 => ?_)⟩
    · replace h16 : decide (v ∈ usesM x) = true := h16
      rw [decide_eq_true_eq] at h16
      refine ⟨rfl, hle2, ?_⟩
      rw [he]; unfold takenM; rw [if_pos h16]; rfl
    replace h16 : decide (v ∈ usesM x) = false := h16
    rw [decide_eq_false_iff_not] at h16
    simp only [List.cons_append, List.nil_append]
    refine ⟨fun _ => nd _, h_load [.int .u8 x.kind] ⟨⟨_, rfl⟩, trivial⟩ (fun _ => (cell (o := 0) rfl).le l2) ?_⟩
    simp only [List.cons_append, List.nil_append]
    refine h_call0 (s73 x.kind) ?_
    rintro _ g4 ⟨e4, rfl⟩
    have e4' := e4.symm
    subst e4'
    refine ⟨[.bool (givesM x.kind)], ⟨⟨_, rfl⟩, trivial⟩, rfl, fun _ => nd _, h_load [.int .i64 x.d] ⟨⟨_, rfl⟩, trivial⟩ (fun _ => (cell (o := 2) rfl).le l2) ?_⟩
    simp only [List.cons_append, List.nil_append]
    have cnd : ∀ D : List Value, vb ((X.ite (.var 18) (.cmp .eql (.var 19) (.var 6)) (.tt false)).den (w :: .int .u8 b.en.kind :: .int .i64 b.en.a :: .int .i64 b.en.to :: .int .i64 b.en.el :: natV k :: .int .i64 v :: natV i :: .int .u8 x.kind :: .int .u8 x.op :: .int .i64 x.d :: .int .i64 x.a :: .int .i64 x.b :: .int .i64 x.n :: q :: u :: .bool (decide (v ∈ usesM x)) :: .int .u8 x.kind :: .bool (givesM x.kind) :: .int .i64 x.d :: D)) = decide (givesM x.kind = true ∧ x.d = v) := fun D => by
      simp only [X.den, gv_zero, gv_succ, vi_int, vb_ite, vb_bool, cmp_eql]
      cases givesM x.kind <;> simp
    refine h_ite (fun h19 => ?_) (fun h19 => ?_)
    · rw [cnd, decide_eq_true_eq] at h19
      refine ⟨rfl, hle2, ?_⟩
      rw [he]; unfold takenM; rw [if_neg h16, if_pos h19]; rfl
    · rw [cnd, decide_eq_false_iff_not] at h19
      show J [.int .i64 (intOp .add .i64 (i : Int) 1)] _
      rw [int_add_one (n := 1000000) (by omega) (by omega)]
      refine hJ _ _ ⟨i + 1, rfl, by omega, hle2, ?_⟩ ?_
      · rw [he]; unfold takenM; rw [if_neg h16, if_neg h19]
        rw [show takenM b.en v (List.drop (i + 1) b.ins) = takenM b.en v (List.drop (i + 1) b.ins) from rfl]
        cases List.drop (i + 1) b.ins <;> rfl
      · simp only [gv_zero, vi_int]; omega
  · replace hc : cmpOp .lss (i : Int) ((vlen w : Nat) : Int) = false := hc
    rw [hwl, cmp_lss, decide_eq_false_iff_not] at hc
    have hie : i = b.ins.length := by omega
    rw [hie, List.drop_length] at he
    refine h_call0 (s74 b.en) ?_
    rintro _ g4 ⟨e4, rfl⟩
    have e4' := e4.symm
    subst e4'
    refine ⟨[.bool (lastM b.en)], ⟨⟨_, rfl⟩, trivial⟩, rfl, ?_⟩
    simp only [List.cons_append, List.nil_append]
    have cnd : vb ((X.ite (.var 8) (.cmp .eql (.var 2) (.var 6)) (.tt false)).den [w, .int .u8 b.en.kind, .int .i64 b.en.a, .int .i64 b.en.to, .int .i64 b.en.el, natV k, .int .i64 v, natV i, .bool (lastM b.en)]) = decide (lastM b.en = true ∧ b.en.a = v) := by
      simp only [X.den, gv_zero, gv_succ, vi_int, vb_ite, vb_bool, cmp_eql]
      cases lastM b.en <;> simp
    refine h_ite (fun h9 => ?_) (fun h9 => ?_)
    · rw [cnd, decide_eq_true_eq] at h9
      exact ⟨rfl, hle, by rw [he]; unfold takenM; rw [if_pos h9]; rfl⟩
    · rw [cnd, decide_eq_false_iff_not] at h9
      exact ⟨rfl, hle, by rw [he]; unfold takenM; rw [if_neg h9]; rfl⟩
end Go.Proofs.YtbbicdfipheaeaaDoor
