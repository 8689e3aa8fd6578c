/-
  Two rows of numbers of one's own; least numbers of steps; a search by rows. Conditions: as each lemma says.
-/
import Derived.Test.YtbbicdfipheaeaaR5C
set_option linter.unusedVariables false
set_option linter.unusedSimpArgs false
namespace Go.Proofs.Ytbbicdfipheaeaa
open Go

/-! ### Two rows -/
def Base (g h : H) (f : List Nat) : Prop := g.le h ∧ Fresh g f
theorem Base.step {g h h' : H} {f f' : List Nat} (B : Base g h f) (k : KeptH h h' f) (hf : ∀ b ∈ f', b ∈ f ∨ h b = none) : Base g h' f' := ⟨k.le B.1 B.2, fun b hb => (hf b hb).elim (B.2 b) (H.le_none B.1)⟩
theorem Base.grow {g h h' : H} {f : List Nat} (B : Base g h f) (hl : h.le h') : Base g h' f := ⟨B.1.trans hl, B.2⟩
theorem Base.cut (h : H) (f : List Nat) : Base (H.cut h f) h f := ⟨H.cut_le _ _, H.cut_fresh _ _⟩
def Rows2 (h : H) (vS vX : Value) (S X : List Nat) (f : List Nat) : Prop := ∃ fS fX, f = fS ++ fX ∧ RowF h 3 1 vS (S.map natV) fS ∧ RowF h 3 1 vX (X.map natV) fX ∧ ∀ b ∈ fS, b ∉ fX
section
variable {h h' : H} {vS vX : Value} {S X f : List Nat}
theorem Rows2.live (k : Rows2 h vS vX S X f) : Live h f := by
  obtain ⟨fS, fX, rfl, h1, h2, h3⟩ := k
  intro b hb
  exact (List.mem_append.1 hb).elim (h1.live b) (h2.live b)
theorem Rows2.agree (ha : Agree h h' f) (k : Rows2 h vS vX S X f) : Rows2 h' vS vX S X f := by
  obtain ⟨fS, fX, rfl, h1, h2, h3⟩ := k
  exact ⟨fS, fX, rfl, h1.agree fun b hb => ha b (by simp [hb]), h2.agree fun b hb => ha b (by simp [hb]), h3⟩
theorem Rows2.grow (hl : h.le h') (k : Rows2 h vS vX S X f) : Rows2 h' vS vX S X f := k.agree (le_agree' hl k.live)
theorem Rows2.fit (k : Rows2 h vS vX S X f) : FitsL [.sl, .sl] [vS, vX] := by
  obtain ⟨fS, fX, rfl, h1, h2, h3⟩ := k
  exact ⟨h1.row0.fit, h2.row0.fit, trivial⟩
theorem Rows2.s (k : Rows2 h vS vX S X f) : IntsAt h vS (S.map Int.ofNat) := by
  obtain ⟨fS, fX, rfl, h1, h2, h3⟩ := k; exact ints_of_nats h1
theorem Rows2.x (k : Rows2 h vS vX S X f) : IntsAt h vX (X.map Int.ofNat) := by
  obtain ⟨fS, fX, rfl, h1, h2, h3⟩ := k; exact ints_of_nats h2
theorem Rows2.push1 (k : Rows2 h vS vX S X f) {x : Nat} (hl : S.length ≤ 1000000) {K : Value → H → Prop} (HK : ∀ v' h' f', Rows2 h' v' vX (S ++ [x]) X f' → KeptH h h' f → (∀ b ∈ f', b ∈ f ∨ h b = none) → K v' h') :
    AppSpec h 3 1 8 ((zeroCells Try.prog 3).getD []) vS [natV x] 1 K := by
  obtain ⟨fS, fX, rfl, h1, h2, h3⟩ := k
  have hul := len_of_rowF h1
  rw [List.length_map] at hul
  refine app_rowF h1 rfl zero_int (by rw [hul]; omega) fun v' h' f6 m1 m2 m3 m4 => ?_
  have m4' : ∀ z ∈ f6, z ∈ fS ∨ h z = none := fun z hz => by
    rcases m4 with rfl | ⟨z', rfl, hz'⟩
    · exact .inl hz
    · rw [List.mem_singleton] at hz; subst hz; exact .inr hz'
  refine HK v' h' (f6 ++ fX) ⟨f6, fX, rfl, by rw [List.map_append]; exact m1, h2.agree (m3.agree h2.live fun b hb hb' => h3 b hb' hb), fun b hb hb' => ?_⟩ (m3.mono fun b hb => by simp [hb]) fun b hb => ?_
  · rcases m4' b hb with q | q
    · exact h3 b q hb'
    · have := h2.live b hb'; rw [q] at this; cases this
  · rcases List.mem_append.1 hb with q | q
    · exact (m4' b q).elim (fun q => .inl (by simp [q])) .inr
    · exact .inl (by simp [q])
theorem Rows2.push2 (k : Rows2 h vS vX S X f) {x : Nat} (hl : X.length ≤ 1000000) {K : Value → H → Prop} (HK : ∀ v' h' f', Rows2 h' vS v' S (X ++ [x]) f' → KeptH h h' f → (∀ b ∈ f', b ∈ f ∨ h b = none) → K v' h') :
    AppSpec h 3 1 8 ((zeroCells Try.prog 3).getD []) vX [natV x] 1 K := by
  obtain ⟨fS, fX, rfl, h1, h2, h3⟩ := k
  have hul := len_of_rowF h2
  rw [List.length_map] at hul
  refine app_rowF h2 rfl zero_int (by rw [hul]; omega) fun v' h' f6 m1 m2 m3 m4 => ?_
  have m4' : ∀ z ∈ f6, z ∈ fX ∨ h z = none := fun z hz => by
    rcases m4 with rfl | ⟨z', rfl, hz'⟩
    · exact .inl hz
    · rw [List.mem_singleton] at hz; subst hz; exact .inr hz'
  refine HK v' h' (fS ++ f6) ⟨fS, f6, rfl, h1.agree (m3.agree h1.live fun b hb hb' => h3 b hb hb'), by rw [List.map_append]; exact m1, fun b hb hb' => ?_⟩ (m3.mono fun b hb => by simp [hb]) fun b hb => ?_
  · rcases m4' b hb' with q | q
    · exact h3 b hb q
    · have := h1.live b hb; rw [q] at this; cases this
  · rcases List.mem_append.1 hb with q | q
    · exact .inl (by simp [q])
    · exact (m4' b q).elim (fun q => .inl (by simp [q])) .inr
end

/-! ### Least numbers of steps -/
def flL (B : List Blk) : FlowS Nat := { N := B.length, frm := aheadM B, first := fun b => if b = 0 then 0 else 99, pass := fun _ x => min (x + 1) 99, join := min, chg := fun x y => decide (min x y < x), le := fun x y => y ≤ x, pot := id, ok := fun _ x => x ≤ 99 }
theorem mem_ahead {B : List Blk} {a b : Nat} : a ∈ aheadM B b ↔ a < B.length ∧ b ∈ nextN B a := by unfold aheadM; simp
theorem flL_good (B : List Blk) : (flL B).Good where
  frm_lt := fun {b a} _ h => (mem_ahead.1 h).1
  refl := fun x => Nat.le_refl x
  trans := fun h h' => Nat.le_trans h' h
  left := fun x y => Nat.min_le_left x y
  right := fun x y => Nat.min_le_right x y
  same := fun {x y} h => by
    have : ¬ (min x y < x) := by simpa [flL] using h
    show min x y = x; omega
  fall := fun {b a x y} hb ha hx hy hc => by simpa [flL] using hc
  first_ok := fun {b} _ => by show (if b = 0 then 0 else 99) ≤ 99; split <;> omega
  step_ok := fun {b a x y} hb ha hx hy => by
    have h4 : x ≤ 99 := hx
    show min x _ ≤ 99
    omega
inductive PL (B : List Blk) : Nat → Nat → Prop
  | zero : PL B 0 0
  | step {n a b : Nat} : PL B n a → b ∈ nextN B a → PL B (n + 1) b
section
variable {B : List Blk} {l : List Nat}
theorem way_low (hB : OkB B) (h : Way (flL B) l) : ∀ {b x : Nat}, l[b]? = some x → x < 99 → ∃ n, n ≤ x ∧ PL B n b := by
  induction h with
  | first =>
    intro b x h hx
    rw [List.getElem?_map, Option.map_eq_some_iff] at h
    obtain ⟨c, h1, h2⟩ := h
    obtain ⟨h3, h4⟩ := List.getElem?_eq_some_iff.1 h1
    rw [List.getElem_range] at h4
    subst h4
    have h2' : (if b = 0 then 0 else 99) = x := h2
    by_cases e : b = 0
    · subst e; exact ⟨0, Nat.zero_le _, .zero⟩
    · rw [if_neg e] at h2'; omega
  | @step l b a x y z _ hbN ha hx hy hz hok ih =>
    intro c w h hw
    have hlt := (List.getElem?_eq_some_iff.1 hx).1
    by_cases e : c = b
    · subst e
      rw [List.getElem?_set_self hlt] at h
      have h' : min x (min (z + 1) 99) = w := by simpa [flL] using h
      by_cases e2 : w = x
      · subst e2; exact ih hx hw
      · have hz' : y ≤ z := hz
        obtain ⟨n, h1, h2⟩ := ih hy (by omega)
        exact ⟨n + 1, by omega, .step h2 (mem_ahead.1 ha).2⟩
    · rw [List.getElem?_set_ne fun q => e q.symm] at h
      exact ih h hw
variable (hB : OkB B) (K : Solved (flL B) l)
include hB K
theorem low {b x : Nat} (h : l[b]? = some x) (hx : x < 99) : ∃ n, n ≤ x ∧ PL B n b := way_low hB K.way h hx
omit hB in
theorem step_le {a b x y : Nat} (hab : b ∈ nextN B a) (ha : l[a]? = some y) (hb : l[b]? = some x) : x ≤ min (y + 1) 99 := by
  have hlt := (List.getElem?_eq_some_iff.1 ha).1
  have hlt2 := (List.getElem?_eq_some_iff.1 hb).1
  have hl : l.length = B.length := K.len
  exact K.closed (b := b) (a := a) (by show b < B.length; omega) (mem_ahead.2 ⟨by omega, hab⟩) hb ha
omit hB in
theorem at_zero {x : Nat} (h : l[0]? = some x) : x = 0 := by
  have h2 : (flL B).le ((flL B).first 0) x := K.fst h
  have : x ≤ (if 0 = 0 then 0 else 99) := h2
  simpa using this
omit hB in
theorem high {n b : Nat} (h : PL B n b) : ∀ {x}, l[b]? = some x → x ≤ n := by
  induction h with
  | zero => intro x hx; rw [at_zero K hx]; omega
  | @step n a b _ hab ih =>
    intro x hx
    have hl : l.length = B.length := K.len
    have ha : a < l.length := by
      unfold nextN at hab
      split at hab
      · rename_i q hq; have := (List.getElem?_eq_some_iff.1 hq).1; omega
      · cases hab
    have hy := List.getElem?_eq_getElem ha
    have := step_le K hab hy hx
    have := ih hy
    omega
theorem pred {b x : Nat} (h : l[b]? = some (x + 1)) (hx : x + 1 < 99) : ∃ a, b ∈ nextN B a ∧ l[a]? = some x := by
  obtain ⟨n, h1, h2⟩ := low hB K h hx
  have h3 := high K h2 h
  have : n = x + 1 := by omega
  subst this
  cases h2 with
  | @step _ a _ hp hab =>
    have hl : l.length = B.length := K.len
    have ha : a < l.length := by
      unfold nextN at hab
      split at hab
      · rename_i q hq; have := (List.getElem?_eq_some_iff.1 hq).1; omega
      · cases hab
    have hy := List.getElem?_eq_getElem ha
    have q1 := step_le K hab hy h
    have q2 := high K hp hy
    refine ⟨a, hab, ?_⟩
    rw [hy]; congr 1; omega
theorem chain : ∀ {x b : Nat}, l[b]? = some x → x < 99 → ∀ m, m ≤ x → ∃ c : Nat, l[c]? = some m
  | 0, b, h, _, m, hm => ⟨b, by rw [h]; congr 1; omega⟩
  | x + 1, b, h, hx, m, hm => by
    by_cases e : m = x + 1
    · subst e; exact ⟨b, h⟩
    · obtain ⟨a, -, ha⟩ := pred hB K h hx
      exact chain ha (by omega) m (by omega)
end
/-- Row by row: what is told so far. -/
structure Bfs (B : List Blk) (l : List Nat) (n : Nat) (row seen : List Nat) : Prop where
  rowL : ∀ b ∈ row, l[b]? = some n
  full : ∀ b, l[b]? = some n → b ∈ row
  nd : seen.Nodup
  lt : ∀ b ∈ seen, b < B.length
  seenL : ∀ {b x}, l[b]? = some x → (b ∈ seen ↔ x ≤ n)
  cnt : n + row.length ≤ seen.length
section
variable {B : List Blk} {l : List Nat} (hB : OkB B) (K : Solved (flL B) l)
include hB K
theorem Bfs.begin (h1 : 1 ≤ B.length) : Bfs B l 0 [0] [0] := by
  have hl : l.length = B.length := K.len
  have h0 : l[0]? = some 0 := by
    have := List.getElem?_eq_getElem (l := l) (i := 0) (by omega)
    rw [this]; congr 1; exact at_zero K this
  have only : ∀ b, l[b]? = some 0 → b = 0 := fun b hb => by
    obtain ⟨n, q1, q2⟩ := low hB K hb (by omega)
    have : n = 0 := by omega
    subst this
    cases q2; rfl
  refine ⟨fun b hb => by simp at hb; subst hb; exact h0, fun b hb => by simp [only b hb], by simp, fun b hb => by simp at hb; omega, fun {b x} hb => ⟨fun hm => ?_, fun hx => ?_⟩, by simp⟩
  · simp at hm; subst hm; rw [h0] at hb; cases hb; omega
  · have : x = 0 := by omega
    subst this
    simp [only b hb]
omit hB K in
theorem Bfs.lim {n : Nat} {row seen : List Nat} (S : Bfs B l n row seen) : n + row.length ≤ B.length := Nat.le_trans S.cnt (nodup_len S.nd S.lt)
/-- Within a row. -/
structure BfsIn (B : List Blk) (l : List Nat) (n : Nat) (row seen : List Nat) (k j : Nat) (nx cur : List Nat) : Prop where
  curL : cur = seen ++ nx
  nd : cur.Nodup
  nxL : ∀ x ∈ nx, l[x]? = some (n + 1)
  old : ∀ k', k' < k → ∀ b, row[k']? = some b → ∀ x ∈ nextN B b, x ∈ cur
  now : ∀ b, row[k]? = some b → ∀ x ∈ (nextN B b).take j, x ∈ cur
omit hB K in
theorem BfsIn.begin {n : Nat} {row seen : List Nat} (S : Bfs B l n row seen) : BfsIn B l n row seen 0 0 [] seen := ⟨by simp, S.nd, (fun x hx => by cases hx), (fun k hk => by omega), fun b hb x hx => by cases hx⟩
omit hB K in
theorem BfsIn.next {n k : Nat} {row seen nx cur : List Nat} {b : Nat} (I : BfsIn B l n row seen k (nextN B b).length nx cur) (hb : row[k]? = some b) : BfsIn B l n row seen (k + 1) 0 nx cur := by
  refine ⟨I.curL, I.nd, I.nxL, fun k' hk c hc => ?_, fun b hb x hx => by cases hx⟩
  rcases Nat.lt_succ_iff_lt_or_eq.1 hk with q | rfl
  · exact I.old k' q c hc
  · rw [hb] at hc; cases hc
    have := I.now b hb
    rwa [List.take_length] at this
omit hB K in
theorem BfsIn.skip {n k j : Nat} {row seen nx cur : List Nat} {b x : Nat} (I : BfsIn B l n row seen k j nx cur) (hb : row[k]? = some b) (hx : (nextN B b)[j]? = some x) (hc : x ∈ cur) : BfsIn B l n row seen k (j + 1) nx cur := by
  refine ⟨I.curL, I.nd, I.nxL, I.old, fun c hc' y hy => ?_⟩
  rw [hb] at hc'; cases hc'
  rw [List.take_add_one, hx, List.mem_append] at hy
  rcases hy with q | q
  · exact I.now b hb y q
  · simp at q; subst q; exact hc
theorem BfsIn.add {n k j : Nat} {row seen nx cur : List Nat} {b x : Nat} (S : Bfs B l n row seen) (hn : n < 90) (I : BfsIn B l n row seen k j nx cur) (hb : row[k]? = some b) (hx : (nextN B b)[j]? = some x) (hc : x ∉ cur) : BfsIn B l n row seen k (j + 1) (nx ++ [x]) (cur ++ [x]) := by
  have hl : l.length = B.length := K.len
  have hxm := List.mem_of_getElem? hx
  have hxl : x < l.length := by rw [hl]; exact nextN_lt hB hxm
  have hy := List.getElem?_eq_getElem hxl
  have hlb := S.rowL b (List.mem_of_getElem? hb)
  have h1 := step_le K hxm hlb hy
  have h2 : ¬ l[x] ≤ n := fun q => hc (by rw [I.curL]; exact List.mem_append_left _ ((S.seenL hy).2 q))
  refine ⟨by rw [I.curL, List.append_assoc], ?_, fun y hy' => ?_, fun k' hk c hc' y hy' => List.mem_append_left _ (I.old k' hk c hc' y hy'), fun c hc' y hy' => ?_⟩
  · refine List.nodup_append.2 ⟨I.nd, by simp, fun a ha d hd e => ?_⟩
    rw [List.mem_singleton] at hd; subst hd; subst e; exact hc ha
  · rcases List.mem_append.1 hy' with q | q
    · exact I.nxL y q
    · rw [List.mem_singleton] at q; subst q; rw [hy]; congr 1; omega
  · rw [hb] at hc'; cases hc'
    rw [List.take_add_one, hx, List.mem_append] at hy'
    rcases hy' with q | q
    · exact List.mem_append_left _ (I.now b hb y q)
    · simp at q; subst q; simp
theorem BfsIn.done {n : Nat} {row seen nx cur : List Nat} (S : Bfs B l n row seen) (hn : n < 90) (hr : 0 < row.length) (I : BfsIn B l n row seen row.length 0 nx cur) : Bfs B l (n + 1) nx cur := by
  have hl : l.length = B.length := K.len
  have full : ∀ b, l[b]? = some (n + 1) → b ∈ nx := fun b hb => by
    obtain ⟨a, h1, h2⟩ := pred hB K hb (by omega)
    obtain ⟨k, h3⟩ := List.getElem?_of_mem (S.full a h2)
    have h4 := I.old k (List.getElem?_eq_some_iff.1 h3).1 a h3 b h1
    rw [I.curL] at h4
    rcases List.mem_append.1 h4 with q | q
    · have := (S.seenL hb).1 q; omega
    · exact q
  refine ⟨I.nxL, full, I.nd, fun b hb => ?_, fun {b x} hb => ⟨fun hm => ?_, fun hx => ?_⟩, ?_⟩
  · rw [I.curL] at hb
    rcases List.mem_append.1 hb with q | q
    · exact S.lt b q
    · have := (List.getElem?_eq_some_iff.1 (I.nxL b q)).1; omega
  · rw [I.curL] at hm
    rcases List.mem_append.1 hm with q | q
    · have := (S.seenL hb).1 q; omega
    · have := I.nxL b q; rw [hb] at this; cases this; omega
  · rw [I.curL]
    by_cases e : x ≤ n
    · exact List.mem_append_left _ ((S.seenL hb).2 e)
    · have : x = n + 1 := by omega
      subst this
      exact List.mem_append_right _ (full b hb)
  · have := S.cnt
    rw [I.curL, List.length_append]; omega
theorem Bfs.rest {n : Nat} {seen : List Nat} (S : Bfs B l n [] seen) (hn : n < 90) {b x : Nat} (hb : l[b]? = some x) (h : b ∉ seen) : x = 99 := by
  have h1 : x ≤ 99 := K.ok hb
  by_cases e : x < 99
  · have h2 : ¬ x ≤ n := fun q => h ((S.seenL hb).2 q)
    obtain ⟨c, hc⟩ := chain hB K hb e n (by omega)
    have := S.full c hc
    cases this
  · omega
end
end Go.Proofs.Ytbbicdfipheaeaa
