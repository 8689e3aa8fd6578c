/-
  Maps from numbers to 'true' (sets of keys), rows with an offset, and a chunk seen within a greater one. Conditions: none (definitions and plain lemmas).
-/
import Derived.Test.YtbgfabppmobpgaaDoorVa
set_option linter.unusedVariables false
set_option linter.unusedSimpArgs false
namespace Go.Proofs.YtbgfabppmobpgaaDoor
open Go

/-- A call with a pointer into the midst of a chunk. -/
theorem CallsA.mid {P : Program} {f : FuncId} {rest A C M : List Value} {h : H} {R : Value → List (List Value) → H → Prop} {k : Nat} (hA : A.length = k)
    (HC : CallsA P f (fun e => (e 0).ptr 0 :: rest) [M] h R) : CallsA P f (fun e => (e 0).ptr k :: rest) [A ++ M ++ C] h (fun r cs h' => ∃ M', cs = [A ++ M' ++ C] ∧ M'.length = M.length ∧ R r [M'] h') := by
  subst hA
  intro w El hl hch hn hp hs
  obtain ⟨c, rfl⟩ : ∃ c, El = [c] := by
    cases El with
    | nil => simp at hl
    | cons c t => cases t with
      | nil => exact ⟨c, rfl⟩
      | cons d u => simp at hl
  obtain ⟨hfr, hheap⟩ := hch 0 c _ rfl rfl
  obtain ⟨c', hc'⟩ : ∃ c' : CE, c' = ⟨c.blk, c.pre ++ A, C ++ c.post, c.elem, c.fr⟩ := ⟨_, rfl⟩
  have hfr' : ∀ n, n ≤ M.length → c'.free n := fun n hn i hi => by
    have := hfr (A.length + i) (by simp only [List.length_append]; omega)
    rw [hc']; simp only [List.length_append, Nat.add_assoc] at this ⊢; exact this
  have hp' : (fun i => [c'].getD i default) 0 = c' := rfl
  have hptr : c'.ptr 0 = c.ptr A.length := by rw [hc']; simp [CE.ptr, CE.at]
  have := HC w [c'] rfl (fun i d l h1 h2 => by
      cases i with
      | zero =>
        simp at h1 h2; subst h1; subst h2
        refine ⟨hfr' _ (Nat.le_refl _), ?_⟩
        rw [hc']; simp only [List.append_assoc] at hheap ⊢; exact hheap
      | succ i => simp at h1) (fun d hd => by rw [List.mem_singleton] at hd; subst hd; rw [hc']; exact hn c (by simp)) (by simp) hs
  simp only [List.getD_cons_zero, hptr] at this ⊢
  refine this.mono ?_
  rintro e w' ⟨v, cs', h', he, hR, hlen, hch', hfrm, hsub, hnone⟩
  obtain ⟨M', rfl⟩ : ∃ M', cs' = [M'] := by
    cases cs' with
    | nil => simp at hlen
    | cons a t => cases t with
      | nil => exact ⟨a, rfl⟩
      | cons d u => simp at hlen
  simp only [List.map_cons, List.map_nil, List.cons.injEq, and_true] at hlen
  obtain ⟨hf2, hh2⟩ := hch' 0 c' M' rfl rfl
  refine ⟨v, [A ++ M' ++ C], h', he, ⟨M', rfl, hlen, hR⟩, by simp [hlen], fun i d l h1 h2 => ?_, ?_, hsub, fun d hd => ?_⟩
  · cases i with
    | zero =>
      simp at h1 h2; subst h1
      refine ⟨fun j hj => hfr j (by rw [← h2] at hj; simp only [List.length_append, hlen] at hj ⊢; omega), ?_⟩
      rw [hc'] at hh2; rw [← h2]; simp only [List.append_assoc] at hh2 ⊢; exact hh2
    | succ i => simp at h1
  · refine ⟨hfrm.size, hfrm.os, hfrm.tape, hfrm.out, fun b h1 h2 h3 => hfrm.keep b h1 h2 fun ⟨d, hd, hb⟩ => h3 ?_⟩
    rw [List.mem_singleton] at hd; subst hd
    exact ⟨c, by simp, by rw [← hb, hc']⟩
  · rw [List.mem_singleton] at hd; subst hd
    have := hnone c' (by simp)
    rw [hc'] at this; exact this

/-! ### Rows with an offset (parts of one cell) -/
def RowG (h : H) (e : TypeId) (v : Value) (cs : List Value) (fp : List Nat) : Prop :=
  (v = .slice none 0 0 ∧ cs = [] ∧ fp = []) ∨
  ∃ b o n c pre r post, v = .slice (some ⟨b, o, none⟩) n c ∧ h b = some (.cells (pre ++ cs ++ r ++ post).toArray e (0, 0)) ∧ pre.length = o ∧ cs.length = n ∧ r.length = c - n ∧ n ≤ c ∧ fp = [b]
theorem RowG.nil {h : H} {e : TypeId} : RowG h e (.slice none 0 0) [] [] := .inl ⟨rfl, rfl, rfl⟩
theorem RowG.fit {h : H} {e : TypeId} {v : Value} {cs : List Value} {fp : List Nat} (H : RowG h e v cs fp) : Fits .sl v := by
  rcases H with ⟨rfl, rfl, rfl⟩ | ⟨b, o, n, c, pre, r, post, rfl, h1, h2, h3, h4, h5, rfl⟩
  · exact fits_nil
  · exact ⟨_, _, _, rfl, (fun e => by cases e), h5⟩
theorem RowG.len {h : H} {e : TypeId} {v : Value} {cs : List Value} {fp : List Nat} (H : RowG h e v cs fp) : vlen v = cs.length := by
  rcases H with ⟨rfl, rfl, rfl⟩ | ⟨b, o, n, c, pre, r, post, rfl, h1, h2, h3, h4, h5, rfl⟩
  · rfl
  · exact h3.symm
theorem RowG.agree {h h' : H} {e : TypeId} {v : Value} {cs : List Value} {fp : List Nat} (ha : Agree h h' fp) (H : RowG h e v cs fp) : RowG h' e v cs fp := by
  rcases H with ⟨rfl, rfl, rfl⟩ | ⟨b, o, n, c, pre, r, post, rfl, h1, h2, h3, h4, h5, rfl⟩
  · exact .inl ⟨rfl, rfl, rfl⟩
  · exact .inr ⟨b, o, n, c, pre, r, post, rfl, by rw [ha b (List.mem_singleton.2 rfl)]; exact h1, h2, h3, h4, h5, rfl⟩
theorem RowG.live {h : H} {e : TypeId} {v : Value} {cs : List Value} {fp : List Nat} (H : RowG h e v cs fp) : Live h fp := by
  rcases H with ⟨rfl, rfl, rfl⟩ | ⟨b, o, n, c, pre, r, post, rfl, h1, h2, h3, h4, h5, rfl⟩
  · intro b hb; cases hb
  · intro b' hb; rw [List.mem_singleton] at hb; subst hb; rw [h1]; rfl
theorem RowG.reads {h : H} {e : TypeId} {v : Value} {cs : List Value} {fp : List Nat} (H : RowG h e v cs fp) {i : Nat} {x : Value} (hx : cs[i]? = some x) : Reads h ((vaddr v).add i) [x] := by
  intro j u hj
  obtain ⟨rfl, rfl⟩ : j = 0 ∧ u = x := by
    cases j with
    | zero => simp at hj; exact ⟨rfl, hj.symm⟩
    | succ j => simp at hj
  rcases H with ⟨rfl, rfl, rfl⟩ | ⟨b, o, n, c, pre, r, post, rfl, h1, h2, h3, h4, h5, rfl⟩
  · simp at hx
  · have hlt := (List.getElem?_eq_some_iff.1 hx).1
    rw [vaddr_sl, add_lit, add_lit]
    simp only [H.cell?, h1]
    simp only [Option.isSome_none, Bool.false_eq_true, if_false, List.getElem?_toArray]
    rw [List.getElem?_append_left (by simp only [List.length_append]; omega), List.getElem?_append_left (by simp only [List.length_append]; omega), List.getElem?_append_right (by omega)]
    rw [show o + i + 0 - pre.length = i by omega]; exact hx
theorem RowF.toG {h : H} {e : TypeId} {v : Value} {cs : List Value} {fp : List Nat} (H : RowF h e 1 v cs fp) : RowG h e v cs fp := by
  rcases H with ⟨rfl, rfl, rfl⟩ | ⟨b, n, c, r, rfl, h1, h2, h3, h4, rfl⟩
  · exact .inl ⟨rfl, rfl, rfl⟩
  · exact .inr ⟨b, 0, n, c, [], r, [], rfl, by simpa using h1, rfl, by simpa using h2, by simpa using h3, h4, rfl⟩
theorem RowG.tail {h : H} {e : TypeId} {v x : Value} {cs : List Value} {fp : List Nat} (H : RowG h e v (x :: cs) fp) : RowG h e (sliceV v 1 (vlen v) 1) cs fp := by
  rcases H with ⟨rfl, h2, rfl⟩ | ⟨b, o, n, c, pre, r, post, rfl, h1, h2, h3, h4, h5, rfl⟩
  · cases h2
  · simp only [List.length_cons] at h3
    simp only [sliceV, vlen_sl]
    by_cases hc : c = 1
    · rw [if_pos hc]
      have : cs = [] := List.eq_nil_of_length_eq_zero (by omega)
      subst this
      exact .inr ⟨b, o, n - 1, c - 1, pre, [], x :: (r ++ post), rfl, by rw [h1]; simp, h2, by simp; omega, by simp; omega, by omega, rfl⟩
    · rw [if_neg hc]
      refine .inr ⟨b, o + 1, n - 1, c - 1, pre ++ [x], r, post, ?_, by rw [h1]; simp, by simp [h2], by omega, by omega, by omega, rfl⟩
      simp [add_lit]
/-- What an append of one cell makes of such a row. -/
theorem app_rowG {h : H} {e : TypeId} {bytes : Nat} {v x : Value} {z cs : List Value} {fp : List Nat} {K : Value → H → Prop} (H : RowG h e v cs fp) (hz : z.length = 1)
    (hb : (vlen v + 1) * bytes ≤ 140737488355328)
    (HK : ∀ v' h' fp', RowG h' e v' (cs ++ [x]) fp' → KeptH h h' fp → (fp' = fp ∨ ∃ b, fp' = [b] ∧ h b = none) → K v' h') : AppSpec h e 1 bytes z v [x] 1 K := by
  have hrep : ∀ k, (repZ z k).length = k := fun k => by simp [repZ, hz]
  rcases H with ⟨rfl, rfl, rfl⟩ | ⟨b, o, n, c, pre, r, post, rfl, h1, h2, h3, h4, h5, rfl⟩
  · refine ⟨fun hc => absurd hc (by omega), fun hc => ⟨growslice_fits hc hb, [], by simp, (fun _ e => by cases e), fun b nc hn hnc => ?_⟩⟩
    refine HK _ _ [b] (.inr ⟨b, 0, 0 + 1, nc, [], repZ z (nc - (0 + 1)), [], rfl, by rw [H.put_same]; simp, rfl, rfl, hrep _, hnc, rfl⟩) (KeptH.put hn _) (.inr ⟨b, rfl, hn⟩)
  · refine ⟨fun hc => ?_, fun hc => ⟨growslice_fits hc hb, cs, by simpa using h3, fun ad e => ?_, fun b' nc hn hnc => ?_⟩⟩
    · obtain ⟨r0, r', rfl⟩ : ∃ r0 r', r = r0 :: r' := by
        cases r with
        | nil => simp at h4; omega
        | cons a t => exact ⟨a, t, rfl⟩
      have hcell : h b = some (.cells ((pre ++ cs) ++ [r0] ++ (r' ++ post)).toArray e (0, 0)) := by rw [h1]; simp
      obtain ⟨s1, s2⟩ := sets_block (b := b) (e := e) (f := (0, 0)) [x] h (o + n) (pre ++ cs) [r0] (r' ++ post) (by simp; omega) rfl hcell
      have ea : ((some (⟨b, o, none⟩ : Addr)).getD default).add (n * 1) = ⟨b, o + n, none⟩ := by rw [Option.getD_some, add_lit, Nat.mul_one]
      rw [ea]
      refine ⟨fun i hi => ?_, HK _ _ [b] (.inr ⟨b, o, n + 1, c, pre, r', post, rfl, by rw [s1]; simp, h2, by simp [h3], by simp at h4; omega, hc, rfl⟩) (fun y hy _ => s2 y fun e => hy (by rw [e]; exact List.mem_singleton.2 rfl)) (.inl rfl)⟩
      simp at hi; subst hi
      rw [add_lit]
      have hl : o + n + 0 < (pre ++ cs ++ (r0 :: r') ++ post).length := by simp; omega
      simp only [H.cell?, H.frozen?, h1]
      constructor
      · simp only [Option.isSome_none, Bool.false_eq_true, if_false, List.getElem?_toArray, List.getElem?_eq_getElem hl, Option.isSome_some]
      · simp
    · cases e
      intro i u hi
      have := RowG.reads (h := h) (e := e) (fp := [b]) (.inr ⟨b, o, n, c, pre, r, post, rfl, h1, h2, h3, h4, h5, rfl⟩) hi 0 u rfl
      rw [vaddr_sl, add_add] at this; simpa using this
    · refine HK _ _ [b'] (.inr ⟨b', 0, n + 1, nc, [], repZ z (nc - (n + 1)), [], rfl, by rw [H.put_same]; simp, rfl, by simp [h3], hrep _, hnc, rfl⟩) (KeptH.put hn _) (.inr ⟨b', rfl, hn⟩)

/-! ### Maps whose keys are these numbers, each with 'true' -/
def KeyMap (h : H) (m : Value) (l : List Int) (fm : List Nat) : Prop :=
  (m = .map none ∧ l = [] ∧ fm = []) ∨
  ∃ r es clock, m = .map (some r) ∧ fm = [r] ∧ h r = some (.map es clock) ∧ es.toList.map (·.key) = l.map (.int .i64) ∧ (∀ e ∈ es.toList, e.val = .bool true ∧ e.born < clock) ∧ l.Nodup
theorem KeyMap.nil {h : H} : KeyMap h (.map none) [] [] := .inl ⟨rfl, rfl, rfl⟩
theorem KeyMap.fit {h : H} {m : Value} {l : List Int} {fm : List Nat} (H : KeyMap h m l fm) : Fits .map m := by
  rcases H with ⟨rfl, rfl, rfl⟩ | ⟨r, es, clock, rfl, rfl, h1, h2, h3, h4⟩
  · exact ⟨_, rfl⟩
  · exact ⟨_, rfl⟩
theorem KeyMap.agree {h h' : H} {m : Value} {l : List Int} {fm : List Nat} (ha : Agree h h' fm) (H : KeyMap h m l fm) : KeyMap h' m l fm := by
  rcases H with ⟨rfl, rfl, rfl⟩ | ⟨r, es, clock, rfl, rfl, h1, h2, h3, h4⟩
  · exact .inl ⟨rfl, rfl, rfl⟩
  · exact .inr ⟨r, es, clock, rfl, rfl, by rw [ha r (List.mem_singleton.2 rfl)]; exact h1, h2, h3, h4⟩
theorem KeyMap.live {h : H} {m : Value} {l : List Int} {fm : List Nat} (H : KeyMap h m l fm) : Live h fm := by
  rcases H with ⟨rfl, rfl, rfl⟩ | ⟨r, es, clock, rfl, rfl, h1, h2, h3, h4⟩
  · intro b hb; cases hb
  · intro b' hb; rw [List.mem_singleton] at hb; subst hb; rw [h1]; rfl
theorem KeyMap.nodup {h : H} {m : Value} {l : List Int} {fm : List Nat} (H : KeyMap h m l fm) : l.Nodup := by
  rcases H with ⟨rfl, rfl, rfl⟩ | ⟨r, es, clock, rfl, rfl, h1, h2, h3, h4⟩
  · exact List.nodup_nil
  · exact h4
theorem keys_find {es : Array MapEntry} {l : List Int} (hk : es.toList.map (·.key) = l.map (.int .i64)) (x : Int) :
    (x ∉ l ∧ Instr.findNow (.int .i64) (.int .i64 x) es.toList 0 = some none) ∨ ∃ j e, l[j]? = some x ∧ es[j]? = some e ∧ e.key = .int .i64 x ∧ Instr.findNow (.int .i64) (.int .i64 x) es.toList 0 = some (some (j, e.val)) := by
  have hks : ∀ y ∈ es.toList, MapKept.IsKey (.int .i64) y.key := fun y hy => by
    have : y.key ∈ l.map (.int .i64) := by rw [← hk]; exact List.mem_map.2 ⟨y, hy, rfl⟩
    obtain ⟨n, _, e⟩ := List.mem_map.1 this
    rw [← e]; rfl
  rcases MapKept.findNow_spec (d := .int .i64) (k := .int .i64 x) rfl es.toList 0 hks with ⟨h1, h2⟩ | ⟨j, e, h1, h2, h3⟩
  · refine .inl ⟨fun hx => ?_, h1⟩
    have : (Value.int .i64 x) ∈ es.toList.map (·.key) := by rw [hk]; exact List.mem_map.2 ⟨x, hx, rfl⟩
    obtain ⟨e, he, e2⟩ := List.mem_map.1 this
    exact h2 e he e2
  · refine .inr ⟨j, e, ?_, by simpa using h2, h3, by simpa using h1⟩
    have e1 : (es.toList.map (·.key))[j]? = some (.int .i64 x) := by rw [List.getElem?_map, h2]; simp [h3]
    rw [hk, List.getElem?_map] at e1
    cases hj : l[j]? with
    | none => rw [hj] at e1; cases e1
    | some n => rw [hj] at e1; simp at e1; rw [e1]
theorem KeyMap.look {h : H} {m : Value} {l : List Int} {fm : List Nat} (H : KeyMap h m l fm) (x : Int) {K : Value → Bool → Prop} (hK : K (.bool (decide (x ∈ l))) (decide (x ∈ l))) :
    LookSpec h (.int .i64) .bool (.bool false) m (.int .i64 x) K := by
  rcases H with ⟨rfl, rfl, rfl⟩ | ⟨r, es, clock, rfl, rfl, h1, h2, h3, h4⟩
  · exact ⟨⟨_, rfl⟩, by simpa using hK⟩
  · rcases keys_find h2 x with ⟨k1, k2⟩ | ⟨j, e, k1, k2, k3, k4⟩
    · exact ⟨es, clock, none, h1, k2, ⟨_, rfl⟩, by simpa [k1] using hK⟩
    · have hm : x ∈ l := List.mem_of_getElem? k1
      have hv := (h3 e (by rw [Array.mem_toList_iff, Array.mem_iff_getElem?]; exact ⟨j, k2⟩)).1
      refine ⟨es, clock, some (j, e.val), h1, k4, ?_⟩
      show Fits .bool e.val ∧ K e.val true
      rw [hv]
      exact ⟨⟨_, rfl⟩, by simpa [hm] using hK⟩
theorem keptH_put {h : H} {r : Nat} {o : Obj} : KeptH h (h.put r o) [r] := fun b hb _ => H.put_other fun e => hb (by rw [e]; exact List.mem_singleton.2 rfl)
theorem KeyMap.upd {h : H} {m : Value} {l : List Int} {fm : List Nat} (HM : KeyMap h m l fm) {x : Int} (hx : x ∉ l) (hm : m ≠ .map none) {K : H → Prop}
    (hK : ∀ h', KeyMap h' m (l ++ [x]) fm → KeptH h h' fm → K h') : UpdSpec h (.int .i64) m (.int .i64 x) (.bool true) K := by
  rcases HM with ⟨rfl, rfl, rfl⟩ | ⟨r, es, clock, rfl, rfl, h1, h2, h3, h4⟩
  · exact absurd rfl hm
  · rcases keys_find h2 x with ⟨k1, k2⟩ | ⟨j, e, k1, k2, k3, k4⟩
    · refine ⟨es, clock, none, h1, k2, hK _ (.inr ⟨r, _, _, rfl, rfl, H.put_same, ?_, fun e he => ?_, ?_⟩) keptH_put⟩
      · simp [h2]
      · simp only [Array.toList_push, List.mem_append, List.mem_singleton] at he
        rcases he with he | rfl
        · exact ⟨(h3 e he).1, Nat.lt_succ_of_lt (h3 e he).2⟩
        · exact ⟨rfl, Nat.lt_succ_self _⟩
      · exact List.nodup_append.2 ⟨h4, by simp, fun a ha b hb e => by simp at hb; subst hb; subst e; exact hx ha⟩
    · exact absurd (List.mem_of_getElem? k1) hx
theorem KeyMap.del {h : H} {m : Value} {l : List Int} {fm : List Nat} {x : Int} (HM : KeyMap h m (x :: l) fm) {K : H → Prop}
    (hK : ∀ h', KeyMap h' m l fm → KeptH h h' fm → K h') : DelSpec h (.int .i64) m (.int .i64 x) K := by
  rcases HM with ⟨rfl, h0, rfl⟩ | ⟨r, es, clock, rfl, rfl, h1, h2, h3, h4⟩
  · cases h0
  · rcases keys_find h2 x with ⟨k1, k2⟩ | ⟨j, e, k1, k2, k3, k4⟩
    · exact absurd (List.mem_cons_self ..) k1
    · have hj : j = 0 := by
        cases j with
        | zero => rfl
        | succ j =>
          simp only [List.getElem?_cons_succ] at k1
          exact absurd (List.mem_of_getElem? k1) (List.nodup_cons.1 h4).1
      subst hj
      refine ⟨es, clock, some (0, e.val), h1, k4, hK _ (.inr ⟨r, _, clock, rfl, rfl, H.put_same, ?_, fun e' he => ?_, (List.nodup_cons.1 h4).2⟩) keptH_put⟩
      · have hes : es.toList.map (·.key) = .int .i64 x :: l.map (.int .i64) := h2
        have : (es.eraseIdxIfInBounds 0).toList = es.toList.tail := by
          unfold Array.eraseIdxIfInBounds
          split
          · simp [Array.toList_eraseIdx]
          · rename_i hn
            have : es.toList = [] := List.eq_nil_of_length_eq_zero (by simpa using hn)
            rw [this]; rfl
        rw [this, List.map_tail, hes]; rfl
      · have hs : (es.eraseIdxIfInBounds 0).toList.Sublist es.toList := by
          unfold Array.eraseIdxIfInBounds
          split
          · simp only [Array.toList_eraseIdx]; exact List.eraseIdx_sublist _ _
          · exact List.Sublist.refl _
        exact h3 e' (hs.subset he)
/-- An entry laid open for a key that isn't there, then set. -/
theorem KeyMap.ment {h : H} {m : Value} {l : List Int} {fm : List Nat} (HM : KeyMap h m l fm) {x : Int} (hx : x ∉ l) (hm : m ≠ .map none) {K : Value → Nat → Go.Proofs.YtbgfabppmobpgaaDoor.H → Prop}
    (hK : ∀ (h1 : Go.Proofs.YtbgfabppmobpgaaDoor.H) (n : Nat), KeptH h h1 fm → (∀ {K' : Go.Proofs.YtbgfabppmobpgaaDoor.H → Prop}, (∀ h', KeyMap h' m (l ++ [x]) fm → KeptH h h' fm → K' h') → EntSpec h1 m (.int .i64 (n : Int)) (.bool true) K') → K (.bool false) n h1) :
    MentSpec h (.int .i64) .bool (.bool false) m (.int .i64 x) K := by
  rcases HM with ⟨rfl, rfl, rfl⟩ | ⟨r, es, clock, rfl, rfl, h1, h2, h3, h4⟩
  · exact absurd rfl hm
  · rcases keys_find h2 x with ⟨k1, k2⟩ | ⟨j, e, k1, k2, k3, k4⟩
    · refine ⟨es, clock, none, h1, k2, ⟨_, rfl⟩, hK _ _ keptH_put fun {K'} hK' => ?_⟩
      refine ⟨_, _, es.size, H.put_same, ?_, hK' _ (.inr ⟨r, _, clock + 1, rfl, rfl, H.put_same, ?_, fun e he => ?_, ?_⟩) (KeptH.trans keptH_put keptH_put)⟩
      · simp only [vi_int]
        rw [Array.findIdx?_push]
        have : es.findIdx? (fun e => (e.born : Int) == (clock : Int)) = none := by
          rw [Array.findIdx?_eq_none_iff]
          intro e he
          have := (h3 e (by simpa using he)).2
          simp; omega
        rw [this]; simp
      · have : ((es.push { key := .int .i64 x, val := .bool false, born := clock }).modify es.size fun e => { e with val := .bool true }).toList = es.toList ++ [{ key := .int .i64 x, val := .bool true, born := clock }] := by
          apply List.ext_getElem?
          intro i
          rw [Array.getElem?_toList, Array.getElem?_modify, Array.getElem?_push]
          by_cases hi : i = es.size
          · subst hi; simp
          · rw [if_neg (fun e => hi e.symm), if_neg hi]
            by_cases hl : i < es.size
            · rw [List.getElem?_append_left (by simpa using hl)]; simp
            · rw [List.getElem?_append_right (by simp; omega)]
              have : i - es.toList.length ≠ 0 := by simp; omega
              rw [Array.getElem?_eq_none (by omega)]
              rw [List.getElem?_eq_none (by simp; omega)]
        rw [this]; simp [h2]
      · have : ((es.push { key := .int .i64 x, val := .bool false, born := clock }).modify es.size fun e => { e with val := .bool true }).toList = es.toList ++ [{ key := .int .i64 x, val := .bool true, born := clock }] := by
          apply List.ext_getElem?
          intro i
          rw [Array.getElem?_toList, Array.getElem?_modify, Array.getElem?_push]
          by_cases hi : i = es.size
          · subst hi; simp
          · rw [if_neg (fun e => hi e.symm), if_neg hi]
            by_cases hl : i < es.size
            · rw [List.getElem?_append_left (by simpa using hl)]; simp
            · rw [List.getElem?_append_right (by simp; omega)]
              rw [Array.getElem?_eq_none (by omega)]
              rw [List.getElem?_eq_none (by simp; omega)]
        rw [this] at he
        rcases List.mem_append.1 he with he | he
        · exact ⟨(h3 e he).1, Nat.lt_succ_of_lt (h3 e he).2⟩
        · rw [List.mem_singleton] at he; subst he
          exact ⟨rfl, Nat.lt_succ_self _⟩
      · exact List.nodup_append.2 ⟨h4, by simp, fun a ha b hb e => by simp at hb; subst hb; subst e; exact hx ha⟩
    · exact absurd (List.mem_of_getElem? k1) hx
end Go.Proofs.YtbgfabppmobpgaaDoor
