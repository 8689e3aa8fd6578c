/-
  Rows of edges put behind each other, and what the laws of the search make of a graph. Conditions: as each lemma says.
-/
import Derived.Test.YtbgfabppmobpgaaDoorR6Aw
set_option linter.unusedVariables false
set_option linter.unusedSimpArgs false
namespace Go.Proofs.YtbgfabppmobpgaaDoor
open Go

def edV (E : EdgeL) : List Value := E.flatMap fun e => [.int .i64 e.1, .int .i64 e.2]
theorem edV_edI (E : List (Nat × Nat)) : edV (edI E) = edC E := by
  unfold edV edI edC
  rw [List.flatMap_map]
theorem edV_append (E D : EdgeL) : edV (E ++ D) = edV E ++ edV D := by simp [edV]
theorem edV_len (E : EdgeL) : (edV E).length = E.length * 2 := by
  unfold edV
  induction E with
  | nil => rfl
  | cons e E ih => rw [List.flatMap_cons, List.length_append, ih]; simp; omega
theorem edV_one {u : Value} (E : EdgeL) (h : u ∈ edV E) : u.oneCell' = true := by
  unfold edV at h
  obtain ⟨e, _, h⟩ := List.mem_flatMap.1 h
  simp only [List.mem_cons, List.not_mem_nil, or_false] at h
  rcases h with rfl | rfl <;> rfl
theorem edV_get : ∀ {E : EdgeL} {j : Nat} {u : Value}, (edV E)[j]? = some u → ∃ e, E[j / 2]? = some e ∧ [Value.int .i64 e.1, .int .i64 e.2][j % 2]? = some u
  | [], j, u, h => by simp [edV] at h
  | x :: E, j, u, h => by
    unfold edV at h
    rw [List.flatMap_cons] at h
    by_cases hj : j < 2
    · rw [List.getElem?_append_left (by simpa using hj)] at h
      rw [Nat.div_eq_of_lt hj, Nat.mod_eq_of_lt hj]
      exact ⟨x, rfl, h⟩
    · rw [List.getElem?_append_right (by simp; omega)] at h
      obtain ⟨e, h1, h2⟩ := edV_get (E := E) (j := j - 2) h
      refine ⟨e, ?_, ?_⟩
      · rw [show j / 2 = (j - 2) / 2 + 1 by omega]; simpa using h1
      · rw [show j % 2 = (j - 2) % 2 by omega]; exact h2
theorem EdgesAt.all {h : H} {v : Value} {E : EdgeL} (K : EdgesAt h v E) : Reads h (vaddr v) (edV E) := by
  intro j u hj
  obtain ⟨e, h1, h2⟩ := edV_get hj
  have := K.read h1 (j % 2) u h2
  rw [add_add] at this
  rw [show j / 2 * 2 + j % 2 = j by omega] at this; exact this
theorem rowF_edV {h : H} {e : TypeId} {v : Value} {E : EdgeL} {fp : List Nat} (k : RowF h e 2 v (edV E) fp) : EdgesAt h v E := by
  refine ⟨k.row0.fit, ?_, fun i x hi => ⟨_, rfl, k.row0.reads fun j u hj => ?_⟩⟩
  · have := k.row0.len; rw [edV_len] at this; omega
  · have hj2 : j < 2 := (List.getElem?_eq_some_iff.1 hj).1
    have hlt : i < E.length := (List.getElem?_eq_some_iff.1 hi).1
    cases hx : (edV E)[i * 2 + j]? with
    | none => rw [List.getElem?_eq_none_iff, edV_len] at hx; omega
    | some w =>
      obtain ⟨e, h1, h2⟩ := edV_get hx
      rw [show (i * 2 + j) / 2 = i by omega, hi] at h1
      rw [show (i * 2 + j) % 2 = j by omega] at h2
      cases h1
      rw [← h2]; exact hj
theorem app_edges {h : H} {G : List Value} {s : SV} {v u : Value} {E D : EdgeL} {fp : List Nat} {K : Value → H → Prop} (kv : RowF h 41 2 v (edV E) fp) (hs : s.den G dE = u) (ku : EdgesAt h u D) (hl : E.length + D.length ≤ 1000000)
    (HK : ∀ v' h' fp', RowF h' 41 2 v' (edV (E ++ D)) fp' → KeptH h h' fp → (fp' = fp ∨ ∃ b, fp' = [b] ∧ h b = none) → K v' h') :
    ∃ N m, SrcOk G h 2 (.sl s) N m ∧ AppSpec h 41 2 16 ((zeroCells Tryd.prog 41).getD []) v N m K := by
  refine ⟨edV D, D.length, ⟨edV_len D, fun z hz => edV_one D hz, ?_⟩, ?_⟩
  · rw [hs]
    have h1 := ku.all
    have h2 := ku.len
    obtain ⟨a, n, c, rfl, h3, h4⟩ := ku.fit
    cases a with
    | none => exact ⟨h2.symm, (h3 rfl).1⟩
    | some b => exact ⟨h2.symm, h1⟩
  · have hvl := (rowF_edV kv).len
    refine app_rowF kv (edV_len D) zero_edge (by rw [hvl]; omega) fun v' h' fp' k1 k2 k3 k4 => HK v' h' fp' (by rw [edV_append]; exact k1) k3 k4
theorem row_empty {h : H} {b : Nat} {e : TypeId} {sz : Nat} : RowF (h.put b (.cells ([] : List Value).toArray e (0, 0))) e sz (.slice (some ⟨b, 0, none⟩) 0 0) [] [b] := RowF.new (r := []) (c := 0) (by simp) (by simp) (Nat.le_refl _)
theorem fresh_of {h h' : H} {fp fp' : List Nat} (hl : h.le h') (hf : Fresh h fp) (k : fp' = fp ∨ ∃ b, fp' = [b] ∧ h' b = none) : Fresh h fp' := by
  rcases k with rfl | ⟨b, rfl, hb⟩
  · exact hf
  · intro z hz; rw [List.mem_singleton] at hz; subst hz; exact H.le_none hl hb
/-- With parts left out, still a graph. -/
theorem right_sub {N : Nat} {p : Nat → Bool} {D : List (Nat × Nat)} (hs : D.Sublist (madeE N p)) : rightE (N : Int) (edI D) = true :=
  right_of ((pairsTo_sorted N N).sublist (hs.trans (selP_sub _ _))) fun e he => by
    have := pairsTo_mem ((selP_sub _ _).subset (hs.subset he)); exact ⟨this.1, this.2.1⟩
end Go.Proofs.YtbgfabppmobpgaaDoor
