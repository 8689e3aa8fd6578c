/-
  The evaluator's step at operations that only compute: pieces of slices and strings; all kinds under one name. Conditions: none.
-/
import Derived.Test.YtibdneedfopcoaaEv7
set_option linter.unusedVariables false
set_option linter.unusedSimpArgs false
namespace Go.Proofs.Ytibdneedfopcoaa
open Go

section
variable {P : Program} {G : List Value} {E : Nat → CE} {st : St} {a : Act} {ty : TypeId}

def closed (s : SV) : Bool := s.refs fun _ => false
theorem closed_den {s : SV} (h : closed s = true) : s.den G E = s.den G dE := SV.den_env (fun l h => by cases h) s h
def oprInt (st : St) (g : X) : Option Operand → Option (Option X)
  | none => some none
  | some x => (match st.opr g x with | .int _ e => some (some e) | _ => none)
theorem oprInt_some (hA : SatA G E st a) {g : X} (hg : vb (g.den G) = true) {x : Operand} {e : Option X} (h : oprInt st g (some x) = some e) :
    ∃ y k, e = some y ∧ a.eval x = .int k (vi (y.den G)) := by
  unfold oprInt at h
  split at h
  · rename_i heq; cases heq
  · rename_i x' heq
    cases heq
    split at h
    · rename_i k y hx
      cases h
      exact ⟨y, k, rfl, opr_den hA hg hx rfl⟩
    · cases h
def bounds (lo hi : Option X) (len cap : X) : List X :=
  (match hi with | some h => [mkCmp .geq h (.lit 0), mkCmp .leq h cap] | none => []) ++
  (match lo with | some l => [mkCmp .geq l (.lit 0), mkCmp .leq l (hi.getD len)] | none => [])
def qSlice (P : Program) (st : St) (g : X) (t : TypeId) (x : Operand) (lo hi mx : Option Operand) : QR :=
  match mx, P.underlying t, oprInt st g lo, oprInt st g hi with
  | none, some .string, some l, some h => (match st.opr g x with
    | .str s => .bnd (bounds l h (.slen s) (.slen s)) .str (.sub s l h)
    | _ => .bad)
  | none, some (.slice e), some l, some h => (match tsize P e, lenX st (st.opr g x), capX st (st.opr g x) with
    | some n, some len, some cap => if closed (st.opr g x) then .bnd (bounds l h len cap) .sl (.slice (st.opr g x) l h n) else .bad
    | _, _, _ => .bad)
  | _, _, _, _ => .bad
def OptRel (G : List Value) : Option X → Option Value → Prop
  | none, none => True
  | some y, some v => ∃ k, v = .int k (vi (y.den G))
  | _, _ => False
theorem sliceBounds_run {w : World} {isSl : Bool} {len cap : Nat} {lo hi : Option X} {lx cx : X} {vlo vhi : Option Value}
    (hl : lx.den G = .int .i64 len) (hc : cx.den G = .int .i64 cap) (hle : len ≤ cap)
    (h1 : OptRel G lo vlo)
    (h2 : OptRel G hi vhi)
    (hb : ∀ x ∈ bounds lo hi lx cx, vb (x.den G) = true) :
    (Instr.sliceBounds isSl len cap vlo vhi none).run P w = .ok (optN G lo 0, optN G hi len, cap) w ∧ optN G lo 0 ≤ optN G hi len ∧ optN G hi len ≤ cap := by
  have key : ∀ (y : X) (k : IntKind) (m : Nat) (code : BoundsCode), 0 ≤ vi (y.den G) → vi (y.den G) ≤ m → (Instr.sliceBound (.int k (vi (y.den G))) m code).run P w = .ok (vi (y.den G)).toNat w := by
    intro y k m code a b
    simp [Instr.sliceBound, asIntOf, a, b]
  cases hi with
  | none =>
    cases vhi with
    | some _ => exact h2.elim
    | none =>
      cases lo with
      | none =>
        cases vlo with
        | some _ => exact h1.elim
        | none => simp [Instr.sliceBounds, optN, hle]
      | some y =>
        cases vlo with
        | none => exact h1.elim
        | some v =>
          obtain ⟨k, rfl⟩ := h1
          simp only [bounds, List.nil_append, Option.getD_none] at hb
          have a1 := n_geq (hb _ (List.mem_cons_self ..))
          have a2 := n_leq (hb _ (List.mem_cons_of_mem _ (List.mem_cons_self ..)))
          simp only [X.den, vi_int, hl] at a1 a2
          refine ⟨?_, ?_, ?_⟩
          · simp [Instr.sliceBounds, optN, key y k len _ a1 a2]
          · simp only [optN]; omega
          · simp only [optN]; omega
  | some z =>
    cases vhi with
    | none => exact h2.elim
    | some u =>
      obtain ⟨k', rfl⟩ := h2
      cases lo with
      | none =>
        cases vlo with
        | some _ => exact h1.elim
        | none =>
          simp only [bounds, List.append_nil] at hb
          have a1 := n_geq (hb _ (List.mem_cons_self ..))
          have a2 := n_leq (hb _ (List.mem_cons_of_mem _ (List.mem_cons_self ..)))
          simp only [X.den, vi_int, hc] at a1 a2
          refine ⟨?_, ?_, ?_⟩
          · simp [Instr.sliceBounds, optN, key z k' cap _ a1 a2]
          · simp only [optN]; omega
          · simp only [optN]; omega
      | some y =>
        cases vlo with
        | none => exact h1.elim
        | some v =>
          obtain ⟨k, rfl⟩ := h1
          simp only [bounds, List.cons_append, List.nil_append, Option.getD_some] at hb
          have a1 := n_geq (hb _ (List.mem_cons_self ..))
          have a2 := n_leq (hb _ (List.mem_cons_of_mem _ (List.mem_cons_self ..)))
          have a3 := n_geq (hb _ (List.mem_cons_of_mem _ (List.mem_cons_of_mem _ (List.mem_cons_self ..))))
          have a4 := n_leq (hb _ (List.mem_cons_of_mem _ (List.mem_cons_of_mem _ (List.mem_cons_of_mem _ (List.mem_cons_self ..)))))
          simp only [X.den, vi_int, hc] at a1 a2 a3 a4
          refine ⟨?_, ?_, ?_⟩
          · simp [Instr.sliceBounds, optN, key z k' cap _ a1 a2, key y k (vi (z.den G)).toNat _ a3 (by omega)]
          · simp only [optN]; omega
          · simp only [optN]; omega
theorem oprInt_ok (hA : SatA G E st a) {g : X} (hg : vb (g.den G) = true) {x : Option Operand} {e : Option X} (h : oprInt st g x = some e) :
    OptRel G e (x.map a.eval) := by
  cases x with
  | none => simp [oprInt] at h; subst h; trivial
  | some x => obtain ⟨y, k, rfl, hv⟩ := oprInt_some hA hg h; exact ⟨k, hv⟩
theorem sound_slice (hA : SatA G E st a) {g : X} (hg : vb (g.den G) = true) (t : TypeId) (x : Operand) (lo hi mx : Option Operand) :
    (qSlice P st g t x lo hi mx).sound P G E a (.slice t x lo hi mx) ty := by
  unfold qSlice
  split
  · rename_i l h hu hl hh
    split
    · rename_i s hx
      have hc := opr_den hA hg hx rfl
      intro hns
      refine ⟨⟨_, rfl⟩, fun w _ _ _ _ => ?_⟩
      obtain ⟨h1, h2, h3⟩ := sliceBounds_run (P := P) (w := w) (isSl := false) (len := (vs (s.den G)).size) (cap := (vs (s.den G)).size) (by simp [X.den]) (by simp [X.den]) (Nat.le_refl _) (oprInt_ok hA hg hl) (oprInt_ok hA hg hh) hns
      simp only [execOp, Instr.sliceAt, Sem.run_bind, run_underlying hu, Result.andThen_ok, Instr.slice, hc, SV.den, Option.map_none, Option.isSome_none, Bool.false_eq_true, if_false]
      simp [h1, LF.den]
    · trivial
  · rename_i e l h hu hl hh
    split
    · rename_i n len cap hn hlen hcap
      split
      · rename_i hcl
        obtain ⟨ad, m, c, e1, e2, e3⟩ := lenX_den (E := E) hA hlen
        obtain ⟨ad', m', c', f1, f2, f3⟩ := capX_den (E := E) hA hcap
        rw [e1] at f1
        cases f1
        have hc := opr_den hA hg rfl e3
        have hd : (st.opr g x).den G dE = .slice ad m c := by rw [← closed_den (E := E) hcl, e1]
        intro hns
        have hw : (ad = none → m = 0 ∧ c = 0) ∧ m ≤ c := by
          have hlen' := hlen
          unfold lenX at hlen'
          split at hlen'
          · rename_i i hxi
            split at hlen'
            · rename_i hs
              have hf := shape_fits hA i
              rw [hs] at hf
              obtain ⟨_, _, _, hv, hf1, hf2⟩ := hf
              rw [hxi] at e1
              simp only [SV.den, hv] at e1
              cases e1
              exact ⟨hf1, hf2⟩
            · cases hlen'
          · rename_i hxi; rw [hxi] at e1; simp only [SV.den] at e1; cases e1; simp
          · rename_i hxi; rw [hxi] at hcl; simp [closed, SV.refs] at hcl
          · cases hlen'
        obtain ⟨h1, h2, h3⟩ := sliceBounds_run (P := P) (w := default) (isSl := true) (len := m) (cap := c) e2 f2 hw.2 (oprInt_ok hA hg hl) (oprInt_ok hA hg hh) hns
        refine ⟨?_, fun w _ _ _ _ => ?_⟩
        · simp only [LF.den, hd, vlen_sl, sliceV]
          refine ⟨_, _, _, rfl, ?_, by omega⟩
          intro hn
          have : ad = none := by
            split at hn
            · exact hn
            · simpa using hn
          obtain ⟨rfl, rfl⟩ := hw.1 this
          omega
        · obtain ⟨h1, h2, h3⟩ := sliceBounds_run (P := P) (w := w) (isSl := true) (len := m) (cap := c) e2 f2 hw.2 (oprInt_ok hA hg hl) (oprInt_ok hA hg hh) hns
          simp only [execOp, Instr.sliceAt, Sem.run_bind, run_underlying hu, Result.andThen_ok, Instr.slice, hc, e1, Option.map_none]
          simp [h1, LF.den, hd, sliceV, run_tsize hn]
      · trivial
    · trivial
  · trivial

/-! ### All of them -/
def qpure (P : Program) (st : St) (g : X) : Op → QR
  | .move x => .val [] (st.opr g x)
  | .assign x => .val [] (st.opr g x)
  | .pick c x y => qPick st g c x y
  | .build t ps => qBuild P st g t ps
  | .nilCheck x => qNil st g x
  | .binOp o t x y _ => qBin P st g o t x y
  | .unOp o _ x => qUn st g o x
  | .convert s d x => qConv P st g s d x
  | .makeFunc f x y => qFunc st g f x y
  | .slice t x lo hi mx => qSlice P st g t x lo hi mx
  | .fieldAddr t x i => qFieldAddr P st g t x i
  | .field t x i => qField P st g t x i
  | .indexAddr t x i => qIndexAddr P st g t x i
  | .index t x i => qIndex P st g t x i
  | .extract x i => qExtract st g x i
  | .call { callee := .builtin b, args := xs, argTypes := ts } => qBuiltin P st g b ts xs
  | _ => .bad
theorem qpure_sound (hA : SatA G E st a) {g : X} (hg : vb (g.den G) = true) (o : Op) : (qpure P st g o).sound P G E a o ty := by
  unfold qpure
  split
  · exact (sound_move hA hg _).1
  · exact (sound_move hA hg _).2
  · exact sound_pick hA hg _ _ _
  · exact sound_build hA hg _ _
  · exact sound_nil hA hg _
  · exact sound_bin hA hg _ _ _ _ _
  · exact sound_un hA hg _ _ _
  · exact sound_conv hA hg _ _ _
  · exact sound_func hA hg _ _ _
  · exact sound_slice hA hg _ _ _ _ _
  · exact sound_fieldAddr hA hg _ _ _
  · exact sound_field hA hg _ _ _
  · exact sound_indexAddr hA hg _ _ _
  · exact sound_index hA hg _ _ _
  · exact sound_extract hA hg _ _
  · exact sound_builtin hA hg _ _ _
  · trivial
end
end Go.Proofs.Ytibdneedfopcoaa
