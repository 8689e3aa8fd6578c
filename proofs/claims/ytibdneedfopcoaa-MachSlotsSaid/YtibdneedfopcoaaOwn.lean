/-
  Rows of one's own that hold parts with rows of their own: each block named, no block twice. Conditions: none (definitions and plain lemmas).
-/
import Derived.Test.YtibdneedfopcoaaRow
set_option linter.unusedVariables false
set_option linter.unusedSimpArgs false
namespace Go.Proofs.Ytibdneedfopcoaa
open Go

/-- An own row, with the block that it lies in. -/
def RowF (h : H) (e : TypeId) (sz : Nat) (v : Value) (cs : List Value) (fp : List Nat) : Prop :=
  (v = .slice none 0 0 ∧ cs = [] ∧ fp = []) ∨
  ∃ b n c r, v = .slice (some ⟨b, 0, none⟩) n c ∧ h b = some (.cells (cs ++ r).toArray e (0, 0)) ∧ cs.length = n * sz ∧ r.length = (c - n) * sz ∧ n ≤ c ∧ fp = [b]
def Agree (h h' : H) (fp : List Nat) : Prop := ∀ b ∈ fp, h' b = h b
def Live (h : H) (fp : List Nat) : Prop := ∀ b ∈ fp, (h b).isSome = true
def Fresh (h0 : H) (fp : List Nat) : Prop := ∀ b ∈ fp, h0 b = none
theorem Agree.left {h h' : H} {f g : List Nat} (H : Agree h h' (f ++ g)) : Agree h h' f := fun b hb => H b (List.mem_append_left _ hb)
theorem Agree.right {h h' : H} {f g : List Nat} (H : Agree h h' (f ++ g)) : Agree h h' g := fun b hb => H b (List.mem_append_right _ hb)
theorem RowF.agree {h h' : H} {e : TypeId} {sz : Nat} {v : Value} {cs : List Value} {fp : List Nat} (ha : Agree h h' fp) (H : RowF h e sz v cs fp) : RowF h' e sz v cs fp := by
  rcases H with ⟨rfl, rfl, rfl⟩ | ⟨b, n, c, r, rfl, h1, h2, h3, h4, rfl⟩
  · exact .inl ⟨rfl, rfl, rfl⟩
  · exact .inr ⟨b, n, c, r, rfl, by rw [ha b (List.mem_singleton.2 rfl)]; exact h1, h2, h3, h4, rfl⟩
theorem RowF.live {h : H} {e : TypeId} {sz : Nat} {v : Value} {cs : List Value} {fp : List Nat} (H : RowF h e sz v cs fp) : Live h fp := by
  rcases H with ⟨rfl, rfl, rfl⟩ | ⟨b, n, c, r, rfl, h1, h2, h3, h4, rfl⟩
  · intro b hb; cases hb
  · intro b' hb; rw [List.mem_singleton] at hb; subst hb; rw [h1]; rfl
theorem RowF.row {h0 h : H} {e : TypeId} {sz : Nat} {v : Value} {cs : List Value} {fp : List Nat} (H : RowF h e sz v cs fp) (hf : Fresh h0 fp) : Row h0 h e sz v cs := by
  rcases H with ⟨rfl, rfl, rfl⟩ | ⟨b, n, c, r, rfl, h1, h2, h3, h4, rfl⟩
  · exact .inl ⟨rfl, rfl⟩
  · exact .inr ⟨b, n, c, r, rfl, h1, h2, h3, h4, hf b (List.mem_singleton.2 rfl)⟩
theorem RowF.row0 {h : H} {e : TypeId} {sz : Nat} {v : Value} {cs : List Value} {fp : List Nat} (H : RowF h e sz v cs fp) : Row (fun _ => none) h e sz v cs := H.row fun _ _ => rfl
theorem RowF.new {h : H} {e : TypeId} {sz b n c : Nat} {cs r : List Value} (hn : cs.length = n * sz) (hc : r.length = (c - n) * sz) (hnc : n ≤ c) :
    RowF (h.put b (.cells (cs ++ r).toArray e (0, 0))) e sz (.slice (some ⟨b, 0, none⟩) n c) cs [b] :=
  .inr ⟨b, n, c, r, rfl, H.put_same, hn, hc, hnc, rfl⟩
/-- All that was there, but for these blocks, is as it was. -/
def KeptH (h h' : H) (fp : List Nat) : Prop := ∀ b, b ∉ fp → (h b).isSome = true → h' b = h b
theorem KeptH.refl (h : H) (fp : List Nat) : KeptH h h fp := fun _ _ _ => rfl
theorem KeptH.agree {h h' : H} {fp g : List Nat} (H : KeptH h h' fp) (hl : Live h g) (hd : ∀ b ∈ g, b ∉ fp) : Agree h h' g := fun b hb => H b (hd b hb) (hl b hb)
theorem KeptH.le {h0 h h' : H} {fp : List Nat} (H : KeptH h h' fp) (hle : h0.le h) (hf : Fresh h0 fp) : h0.le h' := fun b o e => by
  have h1 := hle b o e
  rw [H b (fun hb => by rw [hf b hb] at e; cases e) (by rw [h1]; rfl)]; exact h1
theorem KeptH.put {h : H} {b : Nat} {o : Obj} (hb : h b = none) (fp : List Nat) : KeptH h (h.put b o) fp := fun x _ hx => by
  rw [H.put_other]; intro e; rw [e, hb] at hx; cases hx
theorem KeptH.mono {h h' : H} {f g : List Nat} (H : KeptH h h' f) (hs : ∀ b ∈ f, b ∈ g) : KeptH h h' g := fun b hb hx => H b (fun hf => hb (hs b hf)) hx
theorem KeptH.trans {h h' h'' : H} {f : List Nat} (H : KeptH h h' f) (H' : KeptH h' h'' f) : KeptH h h'' f := fun b hb hx => by
  have e := H b hb hx
  rw [H' b hb (by rw [e]; exact hx), e]
theorem KeptH.live {h h' : H} {f g : List Nat} (H : KeptH h h' f) (hl : Live h g) (hd : ∀ b ∈ g, b ∉ f) : Live h' g := fun b hb => by rw [H b (hd b hb) (hl b hb)]; exact hl b hb
/-- What an append makes of an own row. -/
theorem app_rowF {h : H} {e : TypeId} {sz bytes m : Nat} {v : Value} {z cs N : List Value} {fp : List Nat} {K : Value → H → Prop} (H : RowF h e sz v cs fp) (hN : N.length = m * sz) (hz : z.length = sz)
    (hb : (vlen v + m) * bytes ≤ 140737488355328)
    (HK : ∀ v' h' fp', RowF h' e sz v' (cs ++ N) fp' → vlen v' = vlen v + m → KeptH h h' fp → (fp' = fp ∨ ∃ b, fp' = [b] ∧ h b = none) → K v' h') : AppSpec h e sz bytes z v N m K := by
  have hrep : ∀ k, (repZ z k).length = k * sz := fun k => by simp [repZ, hz]
  rcases H with ⟨rfl, rfl, rfl⟩ | ⟨b, n, c, r, rfl, h1, h2, h3, h4, rfl⟩
  · refine ⟨fun hc => ?_, fun hc => ⟨growslice_fits hc hb, [], by simp, (fun _ e => by cases e), fun b nc hn hnc => ?_⟩⟩
    · have hm : m = 0 := by omega
      subst hm
      have : N = [] := List.eq_nil_of_length_eq_zero (by simpa using hN)
      subst this
      exact ⟨fun i hi => absurd hi (Nat.not_lt_zero _), HK _ _ [] (.inl ⟨rfl, rfl, rfl⟩) rfl (KeptH.refl _ _) (.inl rfl)⟩
    · refine HK _ _ [b] (RowF.new ?_ (hrep _) hnc) rfl (KeptH.put hn _) (.inr ⟨b, rfl, hn⟩)
      rw [Nat.zero_add]; simpa using hN
  · refine ⟨fun hc => ⟨?_, ?_⟩, fun hc => ⟨growslice_fits hc hb, cs, h2, fun ad e => ?_, fun b' nc hn hnc => ?_⟩⟩
    · have := Row.writable (h0 := fun _ => none) (e := e) (sz := sz) (cs := cs) (o := n * sz) (k := N.length) (.inr ⟨b, n, c, r, rfl, h1, h2, h3, h4, rfl⟩) (by rw [hN, ← Nat.add_mul]; exact Nat.mul_le_mul_right _ hc)
      exact this
    · have hr : r = r.take N.length ++ r.drop N.length := (List.take_append_drop ..).symm
      have hlr : N.length ≤ r.length := by rw [hN, h3]; exact Nat.mul_le_mul_right _ (by omega)
      obtain ⟨s1, s2⟩ := sets_block (b := b) (e := e) (f := (0, 0)) N h (n * sz) cs (r.take N.length) (r.drop N.length) h2 (by rw [List.length_take]; omega) (by rw [List.append_assoc, ← hr]; exact h1)
      have ea : ((some (⟨b, 0, none⟩ : Addr)).getD default).add (n * sz) = ⟨b, n * sz, none⟩ := by rw [Option.getD_some, add_lit, Nat.zero_add]
      rw [ea]
      refine HK _ _ [b] (.inr ⟨b, n + m, c, r.drop N.length, rfl, s1, ?_, ?_, hc, rfl⟩) rfl (fun x hx _ => s2 x fun e => hx (by rw [e]; exact List.mem_singleton.2 rfl)) (.inl rfl)
      · rw [List.length_append, h2, hN, Nat.add_mul]
      · rw [List.length_drop, h3, hN, ← Nat.sub_mul]; congr 1; omega
    · cases e
      have := Row.reads (h0 := fun _ => none) (e := e) (sz := sz) (cs := cs) (o := 0) (xs := cs) (.inr ⟨b, n, c, r, rfl, h1, h2, h3, h4, rfl⟩) (fun i u hi => by simpa using hi)
      exact this
    · refine HK _ _ [b'] (RowF.new ?_ (hrep _) hnc) rfl (KeptH.put hn _) (.inr ⟨b', rfl, hn⟩)
      rw [List.length_append, h2, hN, Nat.add_mul]
/-- What a store makes of an own row. -/
theorem set_rowF {h : H} {e : TypeId} {sz : Nat} {v : Value} {A B C N : List Value} {fp : List Nat} (H : RowF h e sz v (A ++ B ++ C) fp) (hN : N.length = B.length) (hne : B ≠ []) :
    RowF (h.sets ((vaddr v).add A.length) N) e sz v (A ++ N ++ C) fp ∧ (∀ b, b ∉ fp → (h.sets ((vaddr v).add A.length) N) b = h b) := by
  rcases H with ⟨rfl, h2, rfl⟩ | ⟨b, n, c, r, rfl, h1, h2, h3, h4, rfl⟩
  · simp only [List.append_eq_nil_iff] at h2
    exact absurd h2.1.2 hne
  · obtain ⟨s1, s2⟩ := sets_block (b := b) (e := e) (f := (0, 0)) N h A.length A B (C ++ r) rfl hN.symm (by rw [← List.append_assoc]; exact h1)
    have ea : (vaddr (.slice (some ⟨b, 0, none⟩) n c)).add A.length = ⟨b, A.length, none⟩ := by rw [vaddr_sl, add_lit, Nat.zero_add]
    rw [ea]
    refine ⟨.inr ⟨b, n, c, r, rfl, by rw [List.append_assoc (A ++ N)]; exact s1, ?_, h3, h4, rfl⟩, fun x hx => s2 x fun e => hx (by rw [e]; exact List.mem_singleton.2 rfl)⟩
    rw [← h2]; simp only [List.length_append]; omega

/-! ### Parts with rows of their own -/
structure El (α : Type) where
  cs : List Value
  x : α
  fp : List Nat
abbrev RepF (α : Type) := H → List Value → α → List Nat → Prop
/-- A rule for parts that looks at its own blocks alone. -/
structure GoodF {α : Type} (R : RepF α) : Prop where
  agree : ∀ {h h' : H} {cs : List Value} {x : α} {fp : List Nat}, Agree h h' fp → R h cs x fp → R h' cs x fp
  live : ∀ {h : H} {cs : List Value} {x : α} {fp : List Nat}, R h cs x fp → Live h fp
def cellsE {α : Type} (L : List (El α)) : List Value := L.flatMap El.cs
def fpE {α : Type} (L : List (El α)) : List Nat := L.flatMap El.fp
def EltsF {α : Type} (sz : Nat) (R : RepF α) (h : H) (L : List (El α)) : Prop := ∀ t ∈ L, t.cs.length = sz ∧ R h t.cs t.x t.fp
def SlF {α : Type} (e : TypeId) (sz : Nat) (R : RepF α) (h : H) (v : Value) (l : List α) (fp : List Nat) : Prop :=
  ∃ (L : List (El α)) (fr : List Nat), l = L.map El.x ∧ fp = fr ++ fpE L ∧ RowF h e sz v (cellsE L) fr ∧ EltsF sz R h L
section
variable {α : Type} {e : TypeId} {sz : Nat} {R : RepF α} {h h' : H} {v : Value} {l : List α} {fp : List Nat}
theorem EltsF.agree (hR : GoodF R) {L : List (El α)} (ha : Agree h h' (fpE L)) (H : EltsF sz R h L) : EltsF sz R h' L := fun t ht =>
  ⟨(H t ht).1, hR.agree (fun b hb => ha b (List.mem_flatMap.2 ⟨t, ht, hb⟩)) (H t ht).2⟩
theorem EltsF.live (hR : GoodF R) {L : List (El α)} (H : EltsF sz R h L) : Live h (fpE L) := fun b hb => by
  obtain ⟨t, ht, hb⟩ := List.mem_flatMap.1 hb
  exact hR.live (H t ht).2 b hb
theorem SlF.good (hR : GoodF R) : GoodF fun h (cs : List Value) (l : List α) fp => ∃ v, cs = [v] ∧ SlF e sz R h v l fp :=
  ⟨fun ha ⟨v, h1, L, fr, h2, h3, h4, h5⟩ => by subst h3; exact ⟨v, h1, L, fr, h2, rfl, h4.agree ha.left, h5.agree hR ha.right⟩,
   fun ⟨v, h1, L, fr, h2, h3, h4, h5⟩ b hb => by
    subst h3
    rcases List.mem_append.1 hb with hb | hb
    · exact h4.live b hb
    · exact h5.live hR b hb⟩
theorem SlF.agree (hR : GoodF R) (ha : Agree h h' fp) (H : SlF e sz R h v l fp) : SlF e sz R h' v l fp := by
  obtain ⟨L, fr, h2, rfl, h4, h5⟩ := H
  exact ⟨L, fr, h2, rfl, h4.agree ha.left, h5.agree hR ha.right⟩
theorem SlF.live (hR : GoodF R) (H : SlF e sz R h v l fp) : Live h fp := by
  obtain ⟨L, fr, h2, rfl, h4, h5⟩ := H
  intro b hb
  rcases List.mem_append.1 hb with hb | hb
  · exact h4.live b hb
  · exact h5.live hR b hb
theorem SlF.nil : SlF e sz R h (.slice none 0 0) ([] : List α) [] := ⟨[], [], rfl, rfl, .inl ⟨rfl, rfl, rfl⟩, fun t ht => by cases ht⟩
theorem cellsE_length {L : List (El α)} (H : EltsF sz R h L) : (cellsE L).length = L.length * sz := by
  induction L with
  | nil => simp [cellsE]
  | cons t L ih =>
    have h1 := (H t (List.mem_cons_self ..)).1
    have h2 := ih fun t ht => H t (List.mem_cons_of_mem _ ht)
    simp only [cellsE, List.flatMap_cons, List.length_append, List.length_cons] at h2 ⊢
    rw [h1, h2, Nat.add_mul, Nat.one_mul, Nat.add_comm]
theorem SlF.len (hs : 0 < sz) (H : SlF e sz R h v l fp) : vlen v = l.length := by
  obtain ⟨L, fr, rfl, rfl, h4, h5⟩ := H
  have h1 := h4.row0.len
  rw [cellsE_length h5] at h1
  rw [List.length_map]
  exact (Nat.eq_of_mul_eq_mul_right hs h1).symm
theorem split_at : ∀ {L : List (El α)} {i : Nat} {x : α}, (L.map El.x)[i]? = some x → ∃ L1 t L2, L = L1 ++ t :: L2 ∧ L1.length = i ∧ t.x = x
  | [], i, x, hi => by simp at hi
  | t :: L, 0, x, hi => ⟨[], t, L, rfl, rfl, by simpa using hi⟩
  | t :: L, i + 1, x, hi => by
    obtain ⟨L1, t', L2, h1, h2, h3⟩ := split_at (L := L) (i := i) (x := x) (by simpa using hi)
    exact ⟨t :: L1, t', L2, by rw [h1]; rfl, by simp [h2], h3⟩
theorem cellsE_append (L M : List (El α)) : cellsE (L ++ M) = cellsE L ++ cellsE M := by simp [cellsE]
theorem cellsE_cons (t : El α) (M : List (El α)) : cellsE (t :: M) = t.cs ++ cellsE M := by simp [cellsE]
theorem fpE_append (L M : List (El α)) : fpE (L ++ M) = fpE L ++ fpE M := by simp [fpE]
theorem fpE_cons (t : El α) (M : List (El α)) : fpE (t :: M) = t.fp ++ fpE M := by simp [fpE]
/-- What an own row says, read. -/
theorem SlF.at (hs : 0 < sz) {Rep : H → List Value → α → Prop} (hRep : ∀ {h : H} {cs : List Value} {x : α} {fp : List Nat}, R h cs x fp → Rep h cs x) (H : SlF e sz R h v l fp) : SlAt sz Rep h v l := by
  have hlen := H.len hs
  obtain ⟨L, fr, rfl, rfl, h4, h5⟩ := H
  refine ⟨h4.row0.fit, hlen, fun i x hi => ?_⟩
  obtain ⟨L1, t, L2, rfl, h1, rfl⟩ := split_at hi
  refine ⟨t.cs, hRep (h5 t (by simp)).2, h4.row0.reads fun j u hj => ?_⟩
  have hl1 : (cellsE L1).length = i * sz := by rw [← h1]; exact cellsE_length fun t ht => h5 t (by simp [ht])
  rw [cellsE_append, cellsE_cons, List.getElem?_append_right (by omega), hl1, Nat.add_sub_cancel_left, List.getElem?_append_left (List.getElem?_eq_some_iff.1 hj).1]
  exact hj
/-- One part more. -/
theorem app_slF (hR : GoodF R) {bytes : Nat} {z c : List Value} {x : α} {f : List Nat} {K : Value → H → Prop} (hs : 0 < sz) (H : SlF e sz R h v l fp) (hc : c.length = sz) (hx : R h c x f) (hnd : (fp ++ f).Nodup) (hz : z.length = sz)
    (hb : (l.length + 1) * bytes ≤ 140737488355328)
    (HK : ∀ v' h' fp', SlF e sz R h' v' (l ++ [x]) fp' → fp'.Nodup → KeptH h h' fp → (∀ b ∈ fp', b ∈ fp ∨ b ∈ f ∨ h b = none) → K v' h') : AppSpec h e sz bytes z v c 1 K := by
  have hlen := H.len hs
  obtain ⟨L, fr, rfl, rfl, h4, h5⟩ := H
  have hlive := h5.live hR
  have hlf := hR.live hx
  refine app_rowF h4 (by rw [hc, Nat.one_mul]) hz (by rw [hlen]; exact hb) fun v' h' fr' k1 k2 k3 k4 => ?_
  rw [List.append_assoc, List.nodup_append] at hnd
  obtain ⟨n1, n2, n3⟩ := hnd
  have hd : ∀ b ∈ fpE L ++ f, b ∉ fr := fun b hb hf => n3 b hf b hb rfl
  have ha : Agree h h' (fpE L ++ f) := k3.agree (fun b hb => (List.mem_append.1 hb).elim (hlive b) (hlf b)) hd
  have hcell : cellsE (L ++ [⟨c, x, f⟩]) = cellsE L ++ c := by simp [cellsE]
  have hfp : fpE (L ++ [⟨c, x, f⟩]) = fpE L ++ f := by simp [fpE]
  refine HK v' h' (fr' ++ (fpE L ++ f)) ⟨L ++ [⟨c, x, f⟩], fr', by simp, by rw [hfp], by rw [hcell]; exact k1, fun t ht => ?_⟩ ?_ (k3.mono fun b hb => List.mem_append_left _ hb) ?_
  · rcases List.mem_append.1 ht with ht | ht
    · exact (h5.agree hR ha.left) t ht
    · rw [List.mem_singleton] at ht; subst ht
      exact ⟨hc, hR.agree ha.right hx⟩
  · rw [List.nodup_append]
    rcases k4 with rfl | ⟨b, rfl, hb⟩
    · exact ⟨n1, n2, n3⟩
    · refine ⟨by simp, n2, fun x hx y hy e => ?_⟩
      rw [List.mem_singleton] at hx
      subst hx; subst e
      have : (h x).isSome = true := (List.mem_append.1 hy).elim (hlive x) (hlf x)
      rw [hb] at this; cases this
  · intro b hb
    rcases List.mem_append.1 hb with hb | hb
    · rcases k4 with rfl | ⟨b', rfl, hb'⟩
      · exact .inl (List.mem_append_left _ hb)
      · rw [List.mem_singleton] at hb; subst hb; exact .inr (.inr hb')
    · rcases List.mem_append.1 hb with hb | hb
      · exact .inl (List.mem_append_right _ hb)
      · exact .inr (.inl hb)
end
end Go.Proofs.Ytibdneedfopcoaa
