/-
  One operation by symbols: rows made anew, loads and stores outside the chunks, calls by contract. Conditions: none (definitions and plain lemmas).
-/
import Derived.Test.YtibdneedfopcoaaEv11
set_option linter.unusedVariables false
set_option linter.unusedSimpArgs false
namespace Go.Proofs.Ytibdneedfopcoaa
open Go

section
variable {P : Program} {B : Beg} {G : List Value} {E : Nat → CE} {h : H} {st : St} {a : Act} {w : World}

/-! ### Rows made anew -/
def fillS (st : St) (place : Nat → Option (Nat × Nat)) (cells : List SV) : List (Nat × SV) → Option (List SV)
  | [] => some cells
  | (i, s) :: l =>
    match place i, st.parts s with
    | some (off, n), some m => if m.length.beq n && Nat.ble (off + n) cells.length then fillS st place (splice cells off m) l else none
    | _, _ => none
theorem fillS_fill (hA : SatA G E st a) {place : Nat → Option (Nat × Nat)} : ∀ {ps : List (Nat × SV)} {cells out : List SV}, fillS st place cells ps = some out →
      Instr.fill place (SV.denL G E cells).toArray (ps.map fun p => (p.1, p.2.den G E)) = some (SV.denL G E out).toArray ∧ (∀ p ∈ ps, p.2.plain = true) ∧ (allPlain cells = true → allPlain out = true)
  | [], cells, out, h => by simp only [fillS, Option.some.injEq] at h; subst h; exact ⟨by simp [Instr.fill], by simp, fun h => h⟩
  | (i, s) :: ps, cells, out, h => by
    unfold fillS at h
    split at h
    · rename_i off n m hpl hm
      split at h
      · rename_i hc
        simp only [Bool.and_eq_true, Nat.beq_eq, Nat.ble_eq] at hc
        obtain ⟨h1, h2, h3⟩ := fillS_fill hA h
        obtain ⟨c1, c2, c3⟩ := parts_den hA hm
        refine ⟨?_, ?_, fun hp => h3 ?_⟩
        · simp only [List.map_cons, Instr.fill, hpl]
          have hs : (s.den G E).cells.size = n := by rw [c1]; simp [SV.denL_eq, hc.1]
          rw [if_neg (by simp [hs, SV.denL_eq]; omega)]
          rw [fill_one _ _ n _ hs (by simp [SV.denL_eq]; omega)]
          rw [denL_splice] at h1
          rw [c1]
          simpa using h1
        · intro p hp
          rcases List.mem_cons.1 hp with rfl | hp
          · exact c2
          · exact h2 p hp
        · simp only [allPlain, List.all_eq_true] at hp c3 ⊢
          intro x hx
          unfold splice at hx
          rcases List.mem_append.1 hx with hx | hx
          · rcases List.mem_append.1 hx with hx | hx
            · exact hp x (List.mem_of_mem_take hx)
            · exact c3 x hx
          · exact hp x (List.mem_of_mem_drop hx)
      · cases h
    · cases h
theorem plain_ofV1 (l : List Value) : allPlain (l.map SV.ofV1) = true := by
  simp only [allPlain, List.all_map, List.all_eq_true, Function.comp]
  intro v _
  unfold SV.ofV1
  split <;> try rfl
  split <;> rfl
def repCells (z : List Value) (n : Nat) : List Value := (List.range n).map fun i => z.getD (i % z.length) undef
def newS (P : Program) (st : St) (g : X) : Op → Option (TypeId × List SV × NK)
  | .alloc e => (match zeroCells P e with
    | some z => some (e, z.map SV.ofV1, .loc)
    | none => none)
  | .box e x => (match st.parts (st.opr g x) with
    | some l => some (e, l, .loc)
    | none => none)
  | .buildSlice t n ps => (match P.underlying t with
    | some (.slice e) => (match tsize P e, zeroCells P e with
      | some sz, some z => if Nat.blt 0 sz && z.length.beq sz && Nat.ble (n * sz) 4096 then
          (match fillS st (fun i => some (i * sz, sz)) ((repCells z (n * sz)).map SV.ofV1) (ps.toList.map fun p => (p.1, st.opr g p.2)) with
          | some out => some (e, out, .lsl n)
          | none => none) else none
      | _, _ => none)
    | _ => none)
  | _ => none
theorem run_zeroC {t : TypeId} {z : List Value} (hz : zeroCells P t = some z) : ∃ v, (P.info? t).bind (·.zero) = some v ∧ v.cells.toList = z ∧ (zeroValue t).run P w = .ok v w := by
  unfold zeroCells at hz
  cases hv : (P.info? t).bind (·.zero) with
  | none => simp [hv] at hz
  | some v => simp [hv] at hz; exact ⟨v, rfl, hz, run_zero hv⟩
theorem newS_run (hA : SatA G E st a) {g : X} (hg : vb (g.den G) = true) {o : Op} {e : TypeId} {cs : List SV} {mk : NK} (hn : newS P st g o = some (e, cs, mk))
    (dst : Option Tmp) (ty : TypeId) (pos : String) (after : Array Edge) (guard : Option (Nat × Bool)) :
    ∃ arr, (execOp a.eval ⟨dst, o, ty, pos, after, guard⟩).run P w = .ok (.value (mk.val w.heap.size)) (w.alloc (.cells arr e)) ∧ arr.toList = SV.denL G E cs ∧ allPlain cs = true := by
  unfold newS at hn
  split at hn
  · split at hn
    · rename_i el z hz
      cases hn
      obtain ⟨v, _, hv, hr⟩ := run_zeroC (w := w) hz
      refine ⟨v.cells, ?_, by rw [hv, denL_ofV1], plain_ofV1 _⟩
      simp [execOp, Instr.alloc, hr, newVar, newRow, NK.val]
    · cases hn
  · split at hn
    · rename_i hp
      cases hn
      obtain ⟨c1, c2, c3⟩ := parts_den hA hp
      have hc := opr_den hA hg rfl c2
      refine ⟨(SV.den G E (st.opr g ‹Operand›)).cells, ?_, by rw [c1], c3⟩
      simp [execOp, Instr.box, hc, newVar, newRow, NK.val]
    · cases hn
  · rename_i t n ps
    split at hn
    · rename_i el hu
      split at hn
      · rename_i sz z hsz hz
        split at hn
        · rename_i hc
          simp only [Bool.and_eq_true, Nat.blt_eq, Nat.beq_eq, Nat.ble_eq] at hc
          split at hn
          · rename_i out hf
            cases hn
            obtain ⟨v, _, hv, hr⟩ := run_zeroC (w := w) hz
            obtain ⟨f1, f2, f3⟩ := fillS_fill (E := E) hA hf
            rw [denL_ofV1] at f1
            refine ⟨(SV.denL G E cs).toArray, ?_, rfl, f3 (plain_ofV1 _)⟩
            obtain ⟨ps⟩ := ps
            have h3 : (ps.toArray.map fun (x : Nat × Operand) => (x.1, a.eval x.2)).toList = ((ps.map fun p => (p.1, st.opr g p.2)).map fun p => (p.1, p.2.den G E)) := by
              simp only [List.map_toArray, List.map_map]
              apply List.map_congr_left
              intro p hp
              simp only [Function.comp, Prod.mk.injEq, true_and]
              exact opr_den hA hg rfl (f2 _ (List.mem_map.2 ⟨p, hp, rfl⟩))
            have hle : ¬ (n * sz > 2 ^ 24) := by have := hc.2; omega
            have f1' : Instr.fill (fun i => some (i * sz, sz)) (repCells z (n * sz)).toArray ((ps.toArray.map fun (x : Nat × Operand) => (x.1, a.eval x.2)).toList) = some (SV.denL G E cs).toArray := by rw [h3]; exact f1
            have h4 : (ps.toArray.map fun (x : Nat × Operand) => match x with | (i, x) => (i, a.eval x)) = (ps.toArray.map fun (x : Nat × Operand) => (x.1, a.eval x.2)) := rfl
            simp only [execOp, Instr.buildSlice, Sem.run_bind, run_underlying hu, Result.andThen_ok, run_tsize hsz, hle, if_false]
            rw [h4]
            by_cases h0 : n * sz = 0
            · have e0 : ((Array.range (n * sz)).map fun i => (#[] : Array Value)[i % (#[] : Array Value).size]!) = (repCells z (n * sz)).toArray := by
                rw [h0]; apply Array.ext'; simp [repCells]
              simp only [h0, if_true, Sem.run_bind, Sem.run_pure, Result.andThen_ok]
              rw [h0] at e0 f1'
              rw [e0, f1']
              simp [newRow, NK.val]
            · have e1 : ((Array.range (n * sz)).map fun i => v.cells[i % v.cells.size]!) = (repCells z (n * sz)).toArray := by
                apply Array.ext'
                simp only [Array.toList_map, Array.toList_range, repCells]
                apply List.map_congr_left
                intro i hi
                rw [List.mem_range] at hi
                have : v.cells.size = z.length := by rw [← hv]; simp
                have hlt : i % v.cells.size < v.cells.size := Nat.mod_lt _ (by rw [this, hc.1.2]; exact hc.1.1)
                rw [getElem!_pos v.cells _ hlt, ← this]
                rw [List.getD_eq_getElem?_getD, ← hv, Array.getElem?_toList, Array.getElem?_eq_getElem hlt]
                rfl
              simp only [h0, if_false, Sem.run_bind, Sem.run_pure, Result.andThen_ok, hr, e1, f1']
              simp [newRow, NK.val]
          · cases hn
        · cases hn
      · cases hn
    · cases hn
  · cases hn

/-! ### Shapes -/
def vSh : Value → Sh
  | .int k _ => .int k
  | .bool _ => .bool
  | .string _ => .str
  | .slice .. => .sl
  | .pointer _ => .ptr
  | .map _ => .map
  | .nilFunc => .fn
  | _ => .any
def shapesOf (P : Program) (t : TypeId) : Option (List Sh) := (zeroCells P t).map (·.map vSh)
def svSh (st : St) : SV → Sh
  | .int k _ => .int k
  | .bool _ => .bool
  | .str _ => .str
  | .ptr _ => .ptr
  | .val i => st.shape i
  | .cst (.slice none 0 0) => .sl
  | .cst (.pointer none) => .ptr
  | .cst (.map none) => .map
  | .cst .nilFunc => .fn
  | .lsl _ n c => if Nat.ble n c then .sl else .any
  | .fn .. => .fn
  | _ => .any
theorem svSh_fits (hA : SatA G E st a) (s : SV) : Fits (svSh st s) (s.den G E) := by
  unfold svSh
  split <;> (try simp only [SV.den])
  · exact ⟨_, rfl⟩
  · exact ⟨_, rfl⟩
  · exact ⟨_, rfl⟩
  · exact ⟨_, rfl⟩
  · exact shape_fits hA _
  · exact ⟨_, _, _, rfl, fun _ => ⟨rfl, rfl⟩, Nat.le_refl _⟩
  · exact ⟨_, rfl⟩
  · exact ⟨_, rfl⟩
  · exact .inl rfl
  · split
    · rename_i hb; rw [Nat.ble_eq] at hb; exact ⟨_, _, _, rfl, (fun e => by cases e), hb⟩
    · trivial
  · exact .inr ⟨_, _, _, rfl⟩
  · trivial
theorem svs_den {shs : List Sh} : ∀ {xs : List Value} {G : List Value}, FitsL shs xs → SV.denL (G ++ xs) E (Sh.svs G.length shs) = xs ∧ allPlain (Sh.svs G.length shs) = true ∧ SV.refsL (fun _ => false) (Sh.svs G.length shs) = true := by
  induction shs with
  | nil => intro xs G h; cases xs with | nil => exact ⟨rfl, rfl, rfl⟩ | cons _ _ => exact h.elim
  | cons s shs ih =>
    intro xs G h
    cases xs with
    | nil => exact h.elim
    | cons v xs =>
      obtain ⟨i1, i2, i3⟩ := ih (G := G ++ [v]) h.2
      simp only [List.append_assoc, List.cons_append, List.nil_append, List.length_append, List.length_cons, List.length_nil, Nat.zero_add] at i1 i2 i3
      have hgv : gv (G ++ v :: xs) G.length = v := by simp [gv, List.getD_eq_getElem?_getD]
      have hs := Sh.sv_den (G := G ++ v :: xs) (E := E) (i := G.length) (s := s) (by rw [hgv]; exact h.1)
      refine ⟨by simp only [Sh.svs, SV.denL]; rw [hs, hgv, i1], ?_, ?_⟩
      · simp only [Sh.svs, allPlain, List.all_cons, Bool.and_eq_true]
        exact ⟨by cases s <;> rfl, i2⟩
      · simp only [Sh.svs, SV.refsL, Bool.and_eq_true]
        exact ⟨by cases s <;> rfl, i3⟩
end
end Go.Proofs.Ytibdneedfopcoaa
