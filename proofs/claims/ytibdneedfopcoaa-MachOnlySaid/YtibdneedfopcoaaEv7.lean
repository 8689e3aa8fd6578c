/-
  The evaluator's step at operations that only compute: literals of structs, pieces of slices and strings; all kinds under one name. Conditions: none.
-/
import Derived.Test.YtibdneedfopcoaaEv6
set_option linter.unusedVariables false
set_option linter.unusedSimpArgs false
namespace Go.Proofs.Ytibdneedfopcoaa
open Go

section
variable {P : Program} {G : List Value} {E : Nat → CE} {st : St} {a : Act} {ty : TypeId}

/-! build: of a struct -/
def St.one (st : St) : SV → Bool
  | .val i => (match st.shape i with | .any => false | _ => true)
  | s => s.one
theorem one_cells (hA : SatA G E st a) {s : SV} (h : st.one s = true) : (s.den G E).cells = #[s.den G E] ∧ s.plain = true ∧ (s.den G E).oneCell' = true := by
  unfold St.one at h
  split at h
  · rename_i i
    have hf := shape_fits hA i
    cases hs : st.shape i <;> simp only [hs] at h hf <;> simp only [SV.den]
    · obtain ⟨n, hv⟩ := hf; rw [hv]; exact ⟨rfl, rfl, rfl⟩
    · obtain ⟨n, hv⟩ := hf; rw [hv]; exact ⟨rfl, rfl, rfl⟩
    · obtain ⟨n, hv⟩ := hf; rw [hv]; exact ⟨rfl, rfl, rfl⟩
    · obtain ⟨_, _, _, hv, _⟩ := hf; rw [hv]; exact ⟨rfl, rfl, rfl⟩
    · obtain ⟨n, hv⟩ := hf; rw [hv]; exact ⟨rfl, rfl, rfl⟩
    · obtain ⟨n, hv⟩ := hf; rw [hv]; exact ⟨rfl, rfl, rfl⟩
    · rcases hf with hv | ⟨_, _, _, hv⟩ <;> rw [hv] <;> exact ⟨rfl, rfl, rfl⟩
    · cases h
  · unfold SV.one at h
    split at h <;> first | exact ⟨rfl, rfl, rfl⟩ | contradiction
def St.parts (st : St) (s : SV) : Option (List SV) :=
  match s with
  | .agg l => if allPlain l then some l else none
  | s => if st.one s then some [s] else none
theorem parts_den (hA : SatA G E st a) {s : SV} {l : List SV} (h : st.parts s = some l) : (s.den G E).cells = (SV.denL G E l).toArray ∧ s.plain = true ∧ allPlain l = true := by
  unfold St.parts at h
  split at h
  · split at h
    · rename_i hp; cases h; exact ⟨rfl, rfl, hp⟩
    · cases h
  · split at h
    · rename_i ho
      cases h
      obtain ⟨h1, h2, _⟩ := one_cells hA ho
      exact ⟨by simp [SV.denL, h1], h2, by simp [allPlain, h2]⟩
    · cases h
/-- Cells put in place. -/
def splice {α : Type} (l : List α) (off : Nat) (m : List α) : List α := l.take off ++ m ++ l.drop (off + m.length)
theorem foldl_splice : ∀ (m : List Value) (off k : Nat) (cs : Array Value), off + k + m.length ≤ cs.size →
    ((m.zipIdx k).foldl (fun cs (x : Value × Nat) => cs.setIfInBounds (off + x.2) x.1) cs).toList = splice cs.toList (off + k) m
  | [], off, k, cs, h => by simp [splice]
  | v :: m, off, k, cs, h => by
    simp only [List.length_cons] at h
    simp only [List.zipIdx_cons, List.foldl_cons]
    rw [foldl_splice m off (k + 1) _ (by simp; omega)]
    simp only [splice, Array.toList_setIfInBounds, List.length_cons]
    apply List.ext_getElem?
    intro i
    have hl : off + k < cs.toList.length := by simp; omega
    by_cases h1 : i < off + k
    · simp [List.getElem?_append, List.getElem?_set, h1, hl, show i < off + (k + 1) by omega, show ¬ (off + k = i) by omega]
      have : i < cs.size := by omega
      simp [this, show i < off + (k+1) + m.length by omega, show i < off + k + (m.length + 1) by omega, show min (off + (k + 1)) cs.size = off + (k + 1) by omega, show min (off + k) cs.size = off + k by omega, h1, show i < off + (k+1) by omega]
    · by_cases h2 : i = off + k
      · subst h2
        have : off + k < cs.size := by omega
        simp [List.getElem?_append, List.getElem?_set, hl, this, show min (off + (k + 1)) cs.size = off + (k + 1) by omega, show min (off + k) cs.size = off + k by omega, show off + k < off + (k + 1) + m.length by omega, show off + k < off + (k+1) by omega]
      · have e1 : i - (off + (k + 1)) = i - (off + k) - 1 := by omega
        simp only [List.getElem?_append, List.length_append, List.length_take, List.length_set, List.length_cons, Array.length_toList, List.getElem?_drop, List.getElem?_set,
          show min (off + (k + 1)) cs.size = off + (k + 1) by omega, show min (off + k) cs.size = off + k by omega]
        by_cases h3 : i < off + k + 1 + m.length
        · simp only [show i < off + (k + 1) + m.length by omega, show ¬ (i < off + (k + 1)) by omega, show ¬ (i < off + k) by omega, show i < off + k + (m.length + 1) by omega, if_true, if_false, e1]
          rw [show i - (off + k) = (i - (off + k) - 1) + 1 by omega, List.getElem?_cons_succ]
          simp
        · simp only [show ¬ (i < off + (k + 1) + m.length) by omega, show ¬ (i < off + k + (m.length + 1)) by omega, if_false]
          rw [if_neg (by omega)]
          congr 1; omega
theorem fill_one (v : Value) (off size : Nat) (cs : Array Value) (h1 : v.cells.size = size) (h2 : off + size ≤ cs.size) :
    (v.cells.zipIdx.foldl (fun cs (x : Value × Nat) => cs.setIfInBounds (off + x.2) x.1) cs) = (splice cs.toList off v.cells.toList).toArray := by
  apply Array.ext'
  rw [← Array.foldl_toList, Array.toList_zipIdx]
  have := foldl_splice v.cells.toList off 0 cs (by simp [h1]; omega)
  simpa using this
def buildS (P : Program) (st : St) (fs : List Field) (cells : List SV) : List (Nat × SV) → Option (List SV)
  | [] => some cells
  | (i, s) :: l =>
    match fs[i]?, st.parts s with
    | some f, some m => (match tsize P f.type with
      | some n => if m.length.beq n && Nat.ble (f.offset + n) cells.length then buildS P st fs (splice cells f.offset m) l else none
      | none => none)
    | _, _ => none
def fieldSizes (P : Program) : List Field → Option (List (Nat × Nat))
  | [] => some []
  | f :: l => match tsize P f.type, fieldSizes P l with
    | some n, some m => some ((f.offset, n) :: m)
    | _, _ => none
theorem fieldSizes_run {w : World} : ∀ {fs : List Field} {l : List (Nat × Nat)}, fieldSizes P fs = some l →
    (fs.mapM (m := Sem) fun f => do pure (f.offset, ← sizeOf f.type)).run P w = .ok l w
  | [], l, h => by simp only [fieldSizes, Option.some.injEq] at h; subst h; simp
  | f :: fs, l, h => by
    unfold fieldSizes at h
    split at h
    · rename_i n m hn hm
      cases h
      have := fieldSizes_run (w := w) hm
      simp only [List.mapM_cons, Sem.run_bind, run_tsize hn, Result.andThen_ok, Sem.run_pure]
      rw [this]; rfl
    · cases h
theorem fieldSizes_get : ∀ {fs : List Field} {l : List (Nat × Nat)} {i : Nat} {f : Field} {n : Nat}, fieldSizes P fs = some l → fs[i]? = some f → tsize P f.type = some n → l[i]? = some (f.offset, n)
  | [], _, _, _, _, _, h, _ => by simp at h
  | f :: fs, l, i, f', n', h, hi, hn => by
    unfold fieldSizes at h
    split at h
    · rename_i n m hn' hm
      cases h
      cases i with
      | zero => simp at hi; subst hi; rw [hn] at hn'; cases hn'; rfl
      | succ i => simp at hi ⊢; exact fieldSizes_get hm hi hn
    · cases h
theorem denL_splice (l m : List SV) (off : Nat) : SV.denL G E (splice l off m) = splice (SV.denL G E l) off (SV.denL G E m) := by
  simp [SV.denL_eq, splice, List.map_take, List.map_drop]
theorem buildS_fill (hA : SatA G E st a) {fs : List Field} {places : List (Nat × Nat)} (hpl : fieldSizes P fs = some places) :
    ∀ {ps : List (Nat × SV)} {cells out : List SV}, buildS P st fs cells ps = some out →
      Instr.fill (places.toArray[·]?) (SV.denL G E cells).toArray (ps.map fun p => (p.1, p.2.den G E)) = some (SV.denL G E out).toArray ∧ ∀ p ∈ ps, p.2.plain = true
  | [], cells, out, h => by simp only [buildS, Option.some.injEq] at h; subst h; exact ⟨by simp [Instr.fill], by simp⟩
  | (i, s) :: ps, cells, out, h => by
    unfold buildS at h
    split at h
    · rename_i f m hf hm
      split at h
      · rename_i n hn
        split at h
        · rename_i hc
          simp only [Bool.and_eq_true, Nat.beq_eq, Nat.ble_eq] at hc
          obtain ⟨h1, h2⟩ := buildS_fill hA hpl h
          obtain ⟨c1, c2, c3⟩ := parts_den hA hm
          refine ⟨?_, ?_⟩
          · simp only [List.map_cons, Instr.fill]
            have hg := fieldSizes_get hpl hf hn
            simp only [List.getElem?_toArray, hg]
            have hs : (s.den G E).cells.size = n := by rw [c1]; simp [SV.denL_eq, hc.1]
            rw [if_neg (by simp [hs, SV.denL_eq]; omega)]
            rw [fill_one _ _ n _ hs (by simp [SV.denL_eq]; omega)]
            rw [denL_splice] at h1
            rw [c1]
            simpa using h1
          · intro p hp
            rcases List.mem_cons.1 hp with rfl | hp
            · exact c2
            · exact h2 p hp
        · cases h
      · cases h
    · cases h
def qBuild (P : Program) (st : St) (g : X) (t : TypeId) (ps : Array (Nat × Operand)) : QR :=
  match P.underlying t, (P.info? t).bind (·.zero) with
  | some (.struct fs), some z => (match fieldSizes P fs.toList, buildS P st fs.toList (z.cells.toList.map SV.ofV1) (ps.toList.map fun p => (p.1, st.opr g p.2)) with
    | some _, some out => .val [] (.agg out)
    | _, _ => .bad)
  | _, _ => .bad
theorem denL_ofV1 (l : List Value) : SV.denL G E (l.map SV.ofV1) = l := by
  simp only [SV.denL_eq, List.map_map]
  have : (SV.den G E ∘ SV.ofV1) = id := funext fun v => SV.ofV1_den G E v
  rw [this]; simp
theorem run_zero {w : World} {t : TypeId} {z : Value} (h : (P.info? t).bind (·.zero) = some z) : (zeroValue t).run P w = .ok z w := by
  cases hi : P.info? t with
  | none => simp [hi] at h
  | some i => simp only [hi, Option.bind_some] at h; simp [zeroValue, typeInfo, hi, h]
theorem sound_build (hA : SatA G E st a) {g : X} (hg : vb (g.den G) = true) (t : TypeId) (ps : Array (Nat × Operand)) : (qBuild P st g t ps).sound P G E a (.build t ps) ty := by
  unfold qBuild
  split
  · rename_i fs z hu hz
    split
    · rename_i places out hpl hb
      obtain ⟨h1, h2⟩ := buildS_fill (E := E) hA hpl hb
      rw [denL_ofV1] at h1
      refine QR.sound_val rfl fun hns w _ _ _ _ => ?_
      obtain ⟨ps⟩ := ps
      have h3 : (ps.map fun p => (p.1, a.eval p.2)) = ((ps.map fun p => (p.1, st.opr g p.2)).map fun p => (p.1, p.2.den G E)) := by
        rw [List.map_map]
        apply List.map_congr_left
        intro p hp
        simp only [Function.comp, Prod.mk.injEq, true_and]
        exact opr_den hA hg rfl (h2 _ (List.mem_map.2 ⟨p, hp, rfl⟩))
      have h4 := fieldSizes_run (w := w) hpl
      have h5 : (fs.mapM (m := Sem) fun f => do pure (f.offset, ← sizeOf f.type)).run P w = .ok places.toArray w := by
        rw [Array.mapM_eq_mapM_toList, Sem.run_map, h4]; rfl
      have h6 : (ps.toArray.map fun x => (x.1, a.eval x.2)).toList = ((ps.map fun p => (p.1, st.opr g p.2)).map fun p => (p.1, p.2.den G E)) := by simpa using h3
      simp only [execOp, Instr.build, Sem.run_bind, run_zero hz, Result.andThen_ok, run_underlying hu]
      have h7 : (fs.mapM (m := Sem) fun f => do let n ← sizeOf f.type; pure (f.offset, n)).run P w = .ok places.toArray w := h5
      rw [h7]
      simp only [Result.andThen_ok]
      have h8 : (ps.toArray.map fun (x : Nat × Operand) => (x.1, a.eval x.2)).toList = ((ps.map fun p => (p.1, st.opr g p.2)).map fun p => (p.1, p.2.den G E)) := h6
      rw [h8]
      have h9 : Instr.fill (places.toArray[·]?) z.cells ((ps.map fun p => (p.1, st.opr g p.2)).map fun p => (p.1, p.2.den G E)) = some (SV.denL G E out).toArray := by simpa using h1
      rw [h9]
      simp [SV.den]
    · trivial
  · trivial
end
end Go.Proofs.Ytibdneedfopcoaa
