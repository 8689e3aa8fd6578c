/-
  From a law's contract to its row: what an argument's reading says of memory, and what the row asks behind the call. Conditions: as each lemma says.
-/
import Derived.Test.YtibdneedfopcoaaRow
import Derived.WalkKit
import Derived.ProofKit
import Derived.OpenShut
import Derived.ShutString
import Derived.ChangeOld
import Derived.Carry
import Derived.Deep.Slices
import Derived.JoinedCond
set_option linter.unusedVariables false
set_option linter.unusedSimpArgs false
namespace Go.Proofs.Ytibdneedfopcoaa
open Go Go.ChangeShapes Go.WideShapes Go.ChangeAt Go.RowKit

/-! ### The whole memory, as what is at hand -/
def hOf (W : World) : H := fun b => W.heap[b]?
theorem hOf_cell {W : World} {a : Addr} : (hOf W).cell? a = W.cell? a := by
  unfold H.cell? World.cell? hOf; rfl
/-- What a law's call comes to: true, and all that was there is as it was. -/
def LawR (W : World) : Value → List (List Value) → H → Prop := Ret fun r h' => (hOf W).le h' ∧ r = .bool true
theorem law_calls {P : Program} {f : FuncId} {args : List Value} {W : World} (hc : CallsA P f (fun _ => args) [] (hOf W) (LawR W)) :
    Calls P f args.toArray W fun e W' => e = .returned (.bool true) ∧ Below W.heap.size W W' := by
  refine (hc W [] rfl (fun i c l h _ => by simp at h) (fun c h => by cases h) List.Pairwise.nil (fun b o h => h)).mono ?_
  rintro e w' ⟨v, cs', h', rfl, ⟨rfl, hle, rfl⟩, _, _, hF, hsub, _⟩
  refine ⟨rfl, ⟨hF.os, hF.tape, hF.out, hF.size, fun k hk => ?_⟩⟩
  have : W.heap[k]? = some W.heap[k] := Array.getElem?_eq_getElem hk
  rw [this]
  exact hsub _ _ (hle _ _ this)

/-! ### Readings -/
section
variable {Hh : Type} {enc : TypeId × Value → Hh} {P : Program} {W : World}
def Rd (enc : TypeId × Value → Hh) (P : Program) (W : World) (t : TypeId) (cs : List Value) : Prop := ∃ fuel x, DataW.trod enc P W 0 (fun _ => true) true fuel t cs = some x
theorem Rd.of {t : TypeId} {v : Value} {d : DataW Hh} {ps : List MemPlace} (h : DataW.Trod enc P W 0 (fun _ => true) true t v d ps) : Rd enc P W t v.cells.toList := by
  obtain ⟨f, h⟩ := h; exact ⟨f, _, h⟩
theorem Rd.int {t : TypeId} {k : IntKind} {cs : List Value} (ht : P.underlying t = some (.int k)) (h : Rd enc P W t cs) : ∃ n, cs = [.int k n] ∧ (Lit.int k n).wf = true := by
  obtain ⟨f, x, h⟩ := h
  obtain ⟨n, h1, _, h2⟩ := DataW.trod_int ht h
  exact ⟨n, h1, h2⟩
theorem Rd.bool {t : TypeId} {cs : List Value} (ht : P.underlying t = some .bool) (h : Rd enc P W t cs) : ∃ b, cs = [.bool b] := by
  obtain ⟨f, x, h⟩ := h
  obtain ⟨n, h1, _⟩ := DataW.trod_bool ht h
  exact ⟨n, h1⟩
theorem Rd.str {t : TypeId} {cs : List Value} (ht : P.underlying t = some .string) (h : Rd enc P W t cs) : ∃ s : ByteArray, cs = [.string s] ∧ s.size ≤ maxLen := by
  obtain ⟨f, x, h⟩ := h
  obtain ⟨n, h1, _, h2⟩ := DataW.trod_string ht h
  exact ⟨n, h1, h2⟩
theorem Rd.struct {t : TypeId} {fs : Array Field} {cs : List Value} (ht : P.underlying t = some (.struct fs)) (h : Rd enc P W t cs) :
    cs.length = P.cellsOf t ∧ ∀ (i : Nat) (f : Field), fs[i]? = some f → Rd enc P W f.type ((cs.drop f.offset).take (P.cellsOf f.type)) := by
  obtain ⟨n, x, h⟩ := h
  obtain ⟨xs, m, _, _, h1, h2, h3⟩ := DataW.trod_struct ht h
  refine ⟨h1, fun i f hf => ?_⟩
  have hlt : i < xs.length := by rw [h2]; exact (Array.getElem?_eq_some_iff.1 hf).1
  exact ⟨m, xs[i], by rw [h3 i f hf, List.getElem?_eq_getElem hlt]⟩
theorem Rd.array {t e : TypeId} {n : Nat} {cs : List Value} (ht : P.underlying t = some (.array n e)) (h : Rd enc P W t cs) :
    cs.length = P.cellsOf t ∧ ∀ i, i < n → Rd enc P W e ((cs.drop (i * P.cellsOf e)).take (P.cellsOf e)) := by
  obtain ⟨f, x, h⟩ := h
  obtain ⟨xs, m, _, _, h1, h2, h3⟩ := DataW.trod_array ht h
  refine ⟨h1, fun i hf => ?_⟩
  exact ⟨m, xs[i], by rw [h3 i hf, List.getElem?_eq_getElem (by omega)]⟩
/-- A struct's cells, field behind field. -/
def RdL (enc : TypeId × Value → Hh) (P : Program) (W : World) : List TypeId → List Value → Prop
  | [], cs => cs = []
  | t :: ts, cs => ∃ a b, cs = a ++ b ∧ Rd enc P W t a ∧ RdL enc P W ts b
def okOff (P : Program) (n : Nat) : Nat → List Field → Bool
  | o, [] => o.beq n
  | o, f :: fs => f.offset.beq o && okOff P n (o + P.cellsOf f.type) fs
theorem RdL.of {n : Nat} {cs : List Value} (hn : cs.length = n) : ∀ {fs : List Field} {o : Nat}, okOff P n o fs = true → (∀ f ∈ fs, Rd enc P W f.type ((cs.drop f.offset).take (P.cellsOf f.type))) → RdL enc P W (fs.map (·.type)) (cs.drop o)
  | [], o, h, _ => by
    simp only [okOff, Nat.beq_eq] at h
    exact List.drop_eq_nil_of_le (by omega)
  | f :: fs, o, h, hr => by
    simp only [okOff, Bool.and_eq_true, Nat.beq_eq] at h
    refine ⟨(cs.drop o).take (P.cellsOf f.type), cs.drop (o + P.cellsOf f.type), ?_, ?_, RdL.of hn h.2 fun g hg => hr g (List.mem_cons_of_mem _ hg)⟩
    · rw [← List.drop_drop, List.take_append_drop]
    · have := hr f (List.mem_cons_self ..); rw [h.1] at this; exact this
theorem Rd.parts {t : TypeId} {fs : Array Field} {cs : List Value} (ht : P.underlying t = some (.struct fs)) (ho : okOff P (P.cellsOf t) 0 fs.toList = true) (h : Rd enc P W t cs) : RdL enc P W (fs.toList.map (·.type)) cs := by
  obtain ⟨h1, h2⟩ := h.struct ht
  have := RdL.of (enc := enc) (W := W) h1 ho fun f hf => by
    obtain ⟨i, hi⟩ := List.getElem?_of_mem hf
    exact h2 i f (by rw [← Array.getElem?_toList]; exact hi)
  simpa using this
/-- A slice's parts, each by its own reading. -/
theorem Rd.slice {α : Type} {t e : TypeId} {sz : Nat} {cs : List Value} {Rep : H → List Value → α → Prop} (ht : P.underlying t = some (.slice e)) (hsz : P.cellsOf e = sz) (h : Rd enc P W t cs)
    (hR : ∀ cs', Rd enc P W e cs' → ∃ x, Rep (hOf W) cs' x) : ∃ v l, cs = [v] ∧ SlAt sz Rep (hOf W) v l ∧ vcap v ≤ maxLen := by
  obtain ⟨f, x, h⟩ := h
  rcases Go.Deep.open_slice ht h with ⟨rfl, _⟩ | ⟨a, len, cap, m, n, D, Pl, rfl, _, hl, hm, hmm, _, hx⟩
  · exact ⟨_, [], rfl, SlAt.nil, Nat.zero_le _⟩
  · have hp : ∀ i, i < len → ∃ y : α, ∃ cs', Rep (hOf W) cs' y ∧ Reads (hOf W) (a.add (i * sz)) cs' := by
      intro i hi
      obtain ⟨cs', h1, h2⟩ := hx i (by rw [hmm]; split <;> omega)
      obtain ⟨y, hy⟩ := hR cs' ⟨n, _, h2⟩
      refine ⟨y, cs', hy, fun j v hj => ?_⟩
      obtain ⟨_, c1, c2⟩ := World.cells?_some h1
      rw [hOf_cell, ← hsz, c2 j (by rw [← c1]; exact (List.getElem?_eq_some_iff.1 hj).1)]
      exact hj
    have key : ∀ k, k ≤ len → ∃ l : List α, l.length = k ∧ ∀ i y, l[i]? = some y → ∃ cs', Rep (hOf W) cs' y ∧ Reads (hOf W) (a.add (i * sz)) cs' := by
      intro k
      induction k with
      | zero => exact fun _ => ⟨[], rfl, fun i y hi => by simp at hi⟩
      | succ k ih =>
        intro hk
        obtain ⟨l, hl1, hl2⟩ := ih (by omega)
        obtain ⟨y, hy⟩ := hp k (by omega)
        refine ⟨l ++ [y], by simp [hl1], fun i z hi => ?_⟩
        by_cases h' : i < l.length
        · rw [List.getElem?_append_left h'] at hi; exact hl2 i z hi
        · rw [List.getElem?_append_right (by omega)] at hi
          obtain ⟨h0, rfl⟩ : i - l.length = 0 ∧ z = y := by
            cases e : i - l.length with
            | zero => rw [e] at hi; simp at hi; exact ⟨rfl, hi.symm⟩
            | succ q => rw [e] at hi; simp at hi
          have : i = k := by omega
          rw [this]; exact hy
    obtain ⟨l, hl1, hl2⟩ := key len (Nat.le_refl _)
    exact ⟨_, l, rfl, ⟨⟨_, _, _, rfl, (fun e => by cases e), hl⟩, hl1.symm, hl2⟩, hm⟩
theorem Rd.ints {t e : TypeId} {cs : List Value} (ht : P.underlying t = some (.slice e)) (he : P.underlying e = some (.int .i64)) (hsz : P.cellsOf e = 1) (h : Rd enc P W t cs) : ∃ v l, cs = [v] ∧ IntsAt (hOf W) v l ∧ vcap v ≤ maxLen :=
  Rd.slice ht hsz h fun cs' hr => by obtain ⟨n, h1, _⟩ := hr.int he; exact ⟨n, h1⟩

/-! ### Behind the call -/
theorem trodAll_below (hl : laidOutB P = true) {W' : World} (bel : Below W.heap.size W W') : ∀ {ts : List TypeId} {vs : List Value} {ds : List (DataW Hh)} {ps : List MemPlace},
    (∀ t ∈ ts, P.readableRec t = true ∧ t < P.types.size) → DataW.TrodAll enc P W 0 (fun _ => true) true ts vs ds ps → DataW.TrodAll enc P W' 0 (fun b => decide (b < W.heap.size)) true ts vs ds ps
  | [], vs, ds, ps, _, h => by
    cases vs <;> cases ds <;> simp [DataW.TrodAll] at h ⊢
    exact h
  | t :: ts, vs, ds, ps, ht, h => by
    obtain ⟨v, vs', d, ds', p, q, rfl, rfl, rfl, h1, h2⟩ := trodAll_cons h
    obtain ⟨r1, r2⟩ := ht t (List.mem_cons_self ..)
    refine trodAll_cons_mk (Below.trod hl r1 r2 h1 bel ?_) (trodAll_below hl bel (fun t h => ht t (List.mem_cons_of_mem _ h)) h2)
    obtain ⟨f, h1⟩ := h1
    exact DataW.trod_lt f _ _ _ h1
/-- What the row asks, where the law answers true and the arguments read as they did. -/
theorem law_post {f : Func} {s : ChangeSpec} {apart : Bool} {W' : World} {args : Array Value} {ds gs : List (DataW Hh)} {before : List MemPlace} {rt : TypeId} (hl : laidOutB P = true)
    (hW : DataW.Whole enc P f.params.toList s.vars apart W args.toList ds gs before) (hvars : s.vars = []) (hts : ∀ t ∈ f.params.toList, P.readableRec t = true ∧ t < P.types.size)
    (hrt : f.resultTypes = #[rt]) (hb : P.underlying rt = some .bool) (hs : s.fn Hh ds = { results := [.lit (.bool true)], args := ds }) (bel : Below W.heap.size W W') :
    s.post enc P f apart true false false W args (.bool true) W' := by
  have hW' := hW
  obtain ⟨p, q, hA, hV, hpq, hfz, hnd⟩ := hW
  rw [hvars] at hV
  obtain ⟨hgs, hq⟩ : gs = [] ∧ q = [] := by
    cases gs with
    | nil => exact ⟨rfl, hV⟩
    | cons _ _ => exact hV.elim
  subst hgs
  have he : s.fn Hh (ds ++ []) = { results := [.lit (.bool true)], args := ds } := by rw [List.append_nil]; exact hs
  refine ⟨ds, [], before, [], p, [], hW', ?_, ?_, ?_, bel.frame _, fun h => by cases h⟩
  · rw [he, hrt]; exact trodAll_mk1 (shut_bool hb _)
  · rw [he]; exact trodAll_below hl bel hts hA
  · rw [he, hvars]; rfl
end
end Go.Proofs.Ytibdneedfopcoaa
