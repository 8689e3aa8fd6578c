/-
  The evaluator's step at operations that only compute: lengths, conversions, literals of structs, pieces of slices; all kinds under one name. Conditions: none.
-/
import Derived.Test.YtibdneedfopcoaaEv5
set_option linter.unusedVariables false
set_option linter.unusedSimpArgs false
namespace Go.Proofs.Ytibdneedfopcoaa
open Go

section
variable {P : Program} {G : List Value} {E : Nat → CE} {st : St} {a : Act} {ty : TypeId}

/-! unOp -/
def qUn (st : St) (g : X) (o : UnOp) (x : Operand) : QR :=
  match o, st.opr g x with
  | .not, .bool e => .val [] (.bool (mkNot e))
  | .neg, .int k e => .val [] (.int k (mkOp .sub k (.lit 0) e))
  | .xor, .int k e => .val [] (.int k (.op .xor k (.lit (if k.signed then -1 else k.max)) e))
  | _, _ => .bad
theorem sound_un (hA : SatA G E st a) {g : X} (hg : vb (g.den G) = true) (o : UnOp) (t : TypeId) (x : Operand) : (qUn st g o x).sound P G E a (.unOp o t x) ty := by
  unfold qUn
  split
  · rename_i e hx
    have hc := opr_den hA hg hx rfl
    refine QR.sound_val rfl fun hns w _ _ _ _ => ?_
    simp [execOp, hc, SV.den, Op.unary, mkNot_den]
  · rename_i k e hx
    have hc := opr_den hA hg hx rfl
    refine QR.sound_val rfl fun hns w _ _ _ _ => ?_
    simp [execOp, hc, SV.den, Op.unary, Op.intArith, mkOp_den, intOp, X.den]
  · rename_i k e hx
    have hc := opr_den hA hg hx rfl
    refine QR.sound_val rfl fun hns w _ _ _ _ => ?_
    simp [execOp, hc, SV.den, Op.unary, Op.intBits, intOp, X.den]
  · trivial

/-! convert -/
def qConv (P : Program) (st : St) (g : X) (s d : TypeId) (x : Operand) : QR :=
  match P.underlying s, P.underlying d, st.opr g x with
  | some _, some (.int k), .int _ e => .val [] (.int k (mkConv k e))
  | some .string, some .string, .str e => .val [] (.str e)
  | _, _, _ => .bad
theorem sound_conv (hA : SatA G E st a) {g : X} (hg : vb (g.den G) = true) (s d : TypeId) (x : Operand) : (qConv P st g s d x).sound P G E a (.convert s d x) ty := by
  unfold qConv
  split
  · rename_i ds k k' e hs hd hx
    have hc := opr_den hA hg hx rfl
    refine QR.sound_val rfl fun hns w _ _ _ _ => ?_
    simp only [execOp, hc, SV.den, Sem.run_bind, convert, run_underlying hs, run_underlying hd, Result.andThen_ok]
    simp [Conv.intToInt, mkConv_den]
  · rename_i e hs hd hx
    have hc := opr_den hA hg hx rfl
    refine QR.sound_val rfl fun hns w _ _ _ _ => ?_
    simp [execOp, hc, SV.den, convert, run_underlying hs, run_underlying hd]
  · trivial

/-! len, cap, min, max -/
def lenX (st : St) : SV → Option X
  | .val i => (match st.shape i with | .sl => some (.len i) | _ => none)
  | .cst (.slice none 0 0) => some (.lit 0)
  | .lsl _ n _ => some (.lit n)
  | _ => none
def capX (st : St) : SV → Option X
  | .val i => (match st.shape i with | .sl => some (.cap i) | _ => none)
  | .cst (.slice none 0 0) => some (.lit 0)
  | .lsl _ _ c => some (.lit c)
  | _ => none
theorem lenX_den (hA : SatA G E st a) {s : SV} {e : X} (h : lenX st s = some e) : ∃ ad n c, s.den G E = .slice ad n c ∧ e.den G = .int .i64 n ∧ s.plain = true := by
  unfold lenX at h
  split at h
  · rename_i i
    split at h
    · rename_i hs
      cases h
      have hf := shape_fits hA i
      rw [hs] at hf
      obtain ⟨ad, n, c, hv, _⟩ := hf
      exact ⟨ad, n, c, hv, by simp [X.den, hv], rfl⟩
    · cases h
  · cases h; exact ⟨none, 0, 0, rfl, rfl, rfl⟩
  · cases h; exact ⟨_, _, _, rfl, rfl, rfl⟩
  · cases h
theorem capX_den (hA : SatA G E st a) {s : SV} {e : X} (h : capX st s = some e) : ∃ ad n c, s.den G E = .slice ad n c ∧ e.den G = .int .i64 c ∧ s.plain = true := by
  unfold capX at h
  split at h
  · rename_i i
    split at h
    · rename_i hs
      cases h
      have hf := shape_fits hA i
      rw [hs] at hf
      obtain ⟨ad, n, c, hv, _⟩ := hf
      exact ⟨ad, n, c, hv, by simp [X.den, hv], rfl⟩
    · cases h
  · cases h; exact ⟨none, 0, 0, rfl, rfl, rfl⟩
  · cases h; exact ⟨_, _, _, rfl, rfl, rfl⟩
  · cases h
def qLen (P : Program) (st : St) (g : X) (t : TypeId) (x : Operand) : QR :=
  match P.underlying t, st.opr g x with
  | some .string, .str s => .val [] (.int .i64 (.slen s))
  | some (.array n _), _ => .val [] (.int .i64 (.lit n))
  | some (.slice _), s => (match lenX st s with | some e => .val [] (.int .i64 e) | none => .bad)
  | _, _ => .bad
def qCap (P : Program) (st : St) (g : X) (t : TypeId) (x : Operand) : QR :=
  match P.underlying t, st.opr g x with
  | some (.slice _), s => (match capX st s with | some e => .val [] (.int .i64 e) | none => .bad)
  | _, _ => .bad
def minX (k : IntKind) (x : X) : List SV → Option X
  | [] => some x
  | .int k' y :: l => if beqIK k k' then minX k (mkIte (mkCmp .lss y x) y x) l else none
  | _ => none
def maxX (k : IntKind) (x : X) : List SV → Option X
  | [] => some x
  | .int k' y :: l => if beqIK k k' then maxX k (mkIte (mkCmp .gtr y x) y x) l else none
  | _ => none
theorem minX_run {k : IntKind} {w : World} : ∀ {l : List SV} {x e : X}, minX k x l = some e → ((SV.denL G E l).foldlM Builtin.min2 (.int k (vi (x.den G)))).run P w = .ok (.int k (vi (e.den G))) w
  | [], x, e, h => by simp only [minX, Option.some.injEq] at h; subst h; simp [SV.denL]
  | s :: l, x, e, h => by
    unfold minX at h
    split at h
    · cases ‹s :: l = []›
    · rename_i k' y l' he
      cases he
      split at h
      · have := minX_run (w := w) h
        simp only [SV.denL, SV.den, List.foldlM_cons, Builtin.min2, Sem.run_bind, Sem.run_pure, Result.andThen_ok]
        rw [mkIte_den, mkCmp_den] at this
        have e1 : vi (if cmpOp .lss (vi (y.den G)) (vi (x.den G)) = true then y.den G else x.den G) = if vi (y.den G) < vi (x.den G) then vi (y.den G) else vi (x.den G) := by
          simp only [cmpOp, decide_eq_true_eq]; split <;> rfl
        rw [e1] at this
        exact this
      · cases h
    · cases h
theorem maxX_run {k : IntKind} {w : World} : ∀ {l : List SV} {x e : X}, maxX k x l = some e → ((SV.denL G E l).foldlM Builtin.max2 (.int k (vi (x.den G)))).run P w = .ok (.int k (vi (e.den G))) w
  | [], x, e, h => by simp only [maxX, Option.some.injEq] at h; subst h; simp [SV.denL]
  | s :: l, x, e, h => by
    unfold maxX at h
    split at h
    · cases ‹s :: l = []›
    · rename_i k' y l' he
      cases he
      split at h
      · have := maxX_run (w := w) h
        simp only [SV.denL, SV.den, List.foldlM_cons, Builtin.max2, Sem.run_bind, Sem.run_pure, Result.andThen_ok]
        rw [mkIte_den, mkCmp_den] at this
        have e1 : vi (if cmpOp .gtr (vi (y.den G)) (vi (x.den G)) = true then y.den G else x.den G) = if vi (y.den G) > vi (x.den G) then vi (y.den G) else vi (x.den G) := by
          simp only [cmpOp, decide_eq_true_eq]; split <;> rfl
        rw [e1] at this
        exact this
      · cases h
    · cases h
def qBuiltin (P : Program) (st : St) (g : X) (b : Builtin) (ts : Array TypeId) (xs : Array Operand) : QR :=
  match b, ts.toList, xs.toList with
  | .len, [t], [x] => qLen P st g t x
  | .cap, [t], [x] => qCap P st g t x
  | .min, _, x :: l => (match st.opr g x with
    | .int k e => if allPlain (l.map (st.opr g)) then (match minX k e (l.map (st.opr g)) with | some e => .val [] (.int k e) | none => .bad) else .bad
    | _ => .bad)
  | .max, _, x :: l => (match st.opr g x with
    | .int k e => if allPlain (l.map (st.opr g)) then (match maxX k e (l.map (st.opr g)) with | some e => .val [] (.int k e) | none => .bad) else .bad
    | _ => .bad)
  | _, _, _ => .bad
theorem oprsL_den (hA : SatA G E st a) {g : X} (hg : vb (g.den G) = true) (l : List Operand) (hp : allPlain (l.map (st.opr g)) = true) :
    l.map a.eval = SV.denL G E (l.map (st.opr g)) := by
  simp only [SV.denL_eq, List.map_map]
  apply List.map_congr_left
  intro x hx
  simp only [allPlain, List.all_eq_true, List.mem_map] at hp
  exact opr_den hA hg rfl (hp _ ⟨x, hx, rfl⟩)
theorem sound_builtin (hA : SatA G E st a) {g : X} (hg : vb (g.den G) = true) (b : Builtin) (ts : Array TypeId) (xs : Array Operand) :
    (qBuiltin P st g b ts xs).sound P G E a (.call { callee := .builtin b, args := xs, argTypes := ts }) ty := by
  obtain ⟨ts⟩ := ts
  obtain ⟨xs⟩ := xs
  unfold qBuiltin
  split
  · rename_i t x e1 e2
    simp only at e1 e2; subst e1; subst e2
    unfold qLen
    split
    · rename_i s hu hx
      have hc := opr_den hA hg hx rfl
      refine QR.sound_val rfl fun hns w _ _ _ _ => ?_
      simp [execOp, resolve, invoke, builtin, Builtin.len_, hc, SV.den, run_underlying hu, X.den, goInt]
    · rename_i n _ hu
      refine QR.sound_val rfl fun hns w _ _ _ _ => ?_
      simp [execOp, resolve, invoke, builtin, Builtin.len_, SV.den, run_underlying hu, X.den, goInt]
    · rename_i el hu
      split
      · rename_i e hl
        obtain ⟨ad, n, c, h1, h2, h3⟩ := lenX_den (E := E) hA hl
        have hc := opr_den hA hg rfl h3
        refine QR.sound_val rfl fun hns w _ _ _ _ => ?_
        simp [execOp, resolve, invoke, builtin, Builtin.len_, hc, h1, h2, SV.den, run_underlying hu, X.den, goInt]
      · trivial
    · trivial
  · rename_i t x e1 e2
    simp only at e1 e2; subst e1; subst e2
    unfold qCap
    split
    · rename_i el hu
      split
      · rename_i e hl
        obtain ⟨ad, n, c, h1, h2, h3⟩ := capX_den (E := E) hA hl
        have hc := opr_den hA hg rfl h3
        refine QR.sound_val rfl fun hns w _ _ _ _ => ?_
        simp [execOp, resolve, invoke, builtin, Builtin.cap_, hc, h1, h2, SV.den, run_underlying hu, X.den, goInt]
      · trivial
    · trivial
  · rename_i x l e2
    simp only at e2; subst e2
    split
    · rename_i k e hx
      have hc := opr_den hA hg hx rfl
      split
      · rename_i hp
        split
        · rename_i e' hm
          refine QR.sound_val rfl fun hns w _ _ _ _ => ?_
          have := minX_run (P := P) (G := G) (E := E) (w := w) hm
          rw [← oprsL_den hA hg l hp] at this
          simp only [execOp, resolve, invoke, builtin, Builtin.min_, Sem.run_bind, Sem.run_pure, Result.andThen_ok, List.map_toArray, List.map_cons, hc, SV.den]
          rw [this]; rfl
        · trivial
      · trivial
    · trivial
  · rename_i x l e2
    simp only at e2; subst e2
    split
    · rename_i k e hx
      have hc := opr_den hA hg hx rfl
      split
      · rename_i hp
        split
        · rename_i e' hm
          refine QR.sound_val rfl fun hns w _ _ _ _ => ?_
          have := maxX_run (P := P) (G := G) (E := E) (w := w) hm
          rw [← oprsL_den hA hg l hp] at this
          simp only [execOp, resolve, invoke, builtin, Builtin.max_, Sem.run_bind, Sem.run_pure, Result.andThen_ok, List.map_toArray, List.map_cons, hc, SV.den]
          rw [this]; rfl
        · trivial
      · trivial
    · trivial
  · trivial
end
end Go.Proofs.Ytibdneedfopcoaa
