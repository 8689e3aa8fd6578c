/-
  One part of an own row, changed in place. Conditions: none (definitions and plain lemmas).
-/
import Derived.Test.YtibdneedfopcoaaOwn
set_option linter.unusedVariables false
set_option linter.unusedSimpArgs false
namespace Go.Proofs.Ytibdneedfopcoaa
open Go

/-- An own row, seen at one part. -/
structure Lens {α : Type} (e : TypeId) (sz : Nat) (R : RepF α) (h : H) (v : Value) (l : List α) (fp : List Nat) (i : Nat) (x : α) (c : List Value) (f : List Nat) (L1 L2 : List (El α)) (fr : List Nat) : Prop where
  list : l = L1.map El.x ++ x :: L2.map El.x
  foot : fp = fr ++ (fpE L1 ++ (f ++ fpE L2))
  at_ : L1.length = i
  row : RowF h e sz v (cellsE L1 ++ c ++ cellsE L2) fr
  len : c.length = sz
  rep : R h c x f
  e1 : EltsF sz R h L1
  e2 : EltsF sz R h L2
section
variable {α : Type} {e : TypeId} {sz : Nat} {R : RepF α} {h : H} {v : Value} {l : List α} {fp : List Nat} {i : Nat} {x : α} {c : List Value} {f : List Nat} {L1 L2 : List (El α)} {fr : List Nat}
theorem SlF.lens (k : SlF e sz R h v l fp) (hi : l[i]? = some x) : ∃ c f L1 L2 fr, Lens e sz R h v l fp i x c f L1 L2 fr := by
  obtain ⟨L, fr, rfl, rfl, h4, h5⟩ := k
  obtain ⟨L1, t, L2, rfl, h1, rfl⟩ := split_at hi
  refine ⟨t.cs, t.fp, L1, L2, fr, by simp, by rw [fpE_append, fpE_cons], h1, ?_, (h5 t (by simp)).1, (h5 t (by simp)).2, fun s hs => h5 s (by simp [hs]), fun s hs => h5 s (by simp [hs])⟩
  rw [cellsE_append, cellsE_cons] at h4
  rw [List.append_assoc]; exact h4
theorem Lens.pre (K : Lens e sz R h v l fp i x c f L1 L2 fr) : (cellsE L1).length = i * sz := by rw [← K.at_]; exact cellsE_length K.e1
theorem Lens.reads (K : Lens e sz R h v l fp i x c f L1 L2 fr) {o : Nat} {xs : List Value} (hx : ∀ j u, xs[j]? = some u → c[o + j]? = some u) : Reads h ((vaddr v).add (i * sz + o)) xs := by
  refine K.row.row0.reads fun j u hj => ?_
  have h1 := hx j u hj
  have hlt := (List.getElem?_eq_some_iff.1 h1).1
  rw [List.append_assoc, List.getElem?_append_right (by rw [K.pre]; omega), K.pre, show i * sz + o + j - i * sz = o + j by omega, List.getElem?_append_left hlt]
  exact h1
/-- The part's own blocks have changed (into h1): the row holds what it makes of it. -/
theorem Lens.inner (hR : GoodF R) (K : Lens e sz R h v l fp i x c f L1 L2 fr) (hnd : fp.Nodup) {h1 : H} (hk : KeptH h h1 f) {x' : α} {f' : List Nat} (hx : R h1 c x' f') (hf : ∀ b ∈ f', b ∈ f ∨ h b = none) (hn : f'.Nodup) :
    SlF e sz R h1 v (l.set i x') (fr ++ (fpE L1 ++ (f' ++ fpE L2))) ∧ (fr ++ (fpE L1 ++ (f' ++ fpE L2))).Nodup ∧ Lens e sz R h1 v (l.set i x') (fr ++ (fpE L1 ++ (f' ++ fpE L2))) i x' c f' L1 L2 fr := by
  have hnd0 := hnd
  rw [K.foot] at hnd
  obtain ⟨n1, n2, n3⟩ := List.nodup_append.1 hnd
  obtain ⟨n4, n5, n6⟩ := List.nodup_append.1 n2
  obtain ⟨n7, n8, n9⟩ := List.nodup_append.1 n5
  have lr := K.row.live
  have ll1 := K.e1.live hR
  have ll2 := K.e2.live hR
  have ar : Agree h h1 fr := hk.agree lr fun b hb hf => n3 b hb b (by simp [hf]) rfl
  have a1 : Agree h h1 (fpE L1) := hk.agree ll1 fun b hb hf => n6 b hb b (by simp [hf]) rfl
  have a2 : Agree h h1 (fpE L2) := hk.agree ll2 fun b hb hf => n9 b hf b hb rfl
  have dead : ∀ b, (h b).isSome = true → h b ≠ none := fun b hb e => by rw [e] at hb; cases hb
  have hlist : l.set i x' = L1.map El.x ++ x' :: L2.map El.x := by
    rw [K.list, List.set_append_right _ _ (by rw [List.length_map, K.at_]; omega), List.length_map, K.at_, Nat.sub_self]; rfl
  have KL : Lens e sz R h1 v (l.set i x') (fr ++ (fpE L1 ++ (f' ++ fpE L2))) i x' c f' L1 L2 fr :=
    ⟨hlist, rfl, K.at_, K.row.agree ar, K.len, hx, K.e1.agree hR a1, K.e2.agree hR a2⟩
  refine ⟨⟨L1 ++ ⟨c, x', f'⟩ :: L2, fr, by rw [hlist]; simp, by rw [fpE_append, fpE_cons], ?_, fun s hs => ?_⟩, ?_, KL⟩
  · rw [cellsE_append, cellsE_cons, ← List.append_assoc]; exact KL.row
  · rcases List.mem_append.1 hs with q | q
    · exact KL.e1 s q
    · rcases List.mem_cons.1 q with rfl | q
      · exact ⟨K.len, hx⟩
      · exact KL.e2 s q
  · refine List.nodup_append.2 ⟨n1, List.nodup_append.2 ⟨n4, List.nodup_append.2 ⟨hn, n8, fun a ha b hb e => ?_⟩, fun a ha b hb e => ?_⟩, fun a ha b hb e => ?_⟩
    · subst e
      rcases hf a ha with q | q
      · exact n9 a q a hb rfl
      · exact dead a (ll2 a hb) q
    · subst e
      rcases List.mem_append.1 hb with hb | hb
      · rcases hf a hb with q | q
        · exact n6 a ha a (by simp [q]) rfl
        · exact dead a (ll1 a ha) q
      · exact n6 a ha a (by simp [hb]) rfl
    · subst e
      rcases List.mem_append.1 hb with hb | hb
      · exact n3 a ha a (by simp [hb]) rfl
      · rcases List.mem_append.1 hb with hb | hb
        · rcases hf a hb with q | q
          · exact n3 a ha a (by simp [q]) rfl
          · exact dead a (lr a ha) q
        · exact n3 a ha a (by simp [hb]) rfl
theorem Lens.apart (K : Lens e sz R h v l fp i x c f L1 L2 fr) (hnd : fp.Nodup) : ∀ b ∈ f, b ∉ fr := fun b hb hr => by
  rw [K.foot] at hnd
  exact (List.nodup_append.1 hnd).2.2 b hr b (by simp [hb]) rfl
/-- Some cells of the part are set. -/
theorem Lens.store (hR : GoodF R) (K : Lens e sz R h v l fp i x c f L1 L2 fr) (hnd : fp.Nodup) {o : Nat} {N A B C : List Value} (hc : c = A ++ B ++ C) (ho : A.length = o) (hN : N.length = B.length) (hne : B ≠ []) :
    Writable h ((vaddr v).add (i * sz + o)) N.length ∧ (∀ b, b ∉ fr → (h.sets ((vaddr v).add (i * sz + o)) N) b = h b) ∧
    ∀ x', (R (h.sets ((vaddr v).add (i * sz + o)) N) c x f → R (h.sets ((vaddr v).add (i * sz + o)) N) (A ++ N ++ C) x' f) → SlF e sz R (h.sets ((vaddr v).add (i * sz + o)) N) v (l.set i x') fp := by
  subst hc
  have hrow : RowF h e sz v ((cellsE L1 ++ A) ++ B ++ (C ++ cellsE L2)) fr := by have := K.row; simpa [List.append_assoc] using this
  have hA : (cellsE L1 ++ A).length = i * sz + o := by rw [List.length_append, K.pre, ho]
  obtain ⟨s1, s2⟩ := set_rowF hrow hN hne
  rw [hA] at s1 s2
  have hnd0 := hnd
  rw [K.foot] at hnd
  obtain ⟨n1, n2, n3⟩ := List.nodup_append.1 hnd
  have ag : ∀ {g : List Nat}, (∀ b ∈ g, b ∈ fpE L1 ++ (f ++ fpE L2)) → Agree h (h.sets ((vaddr v).add (i * sz + o)) N) g := fun hg b hb => s2 b fun hr => n3 b hr b (hg b hb) rfl
  refine ⟨?_, s2, fun x' hx => ?_⟩
  · have h1 := hrow.row0.len
    have h2 := hrow.row0.fit
    refine K.row.row0.writable ?_
    obtain ⟨a, n, cc, rfl, _, h3⟩ := h2
    simp only [vlen_sl, vcap_sl, List.length_append] at h1 hA ⊢
    have : n * sz ≤ cc * sz := Nat.mul_le_mul_right _ h3
    omega
  · have hlist : l.set i x' = L1.map El.x ++ x' :: L2.map El.x := by
      rw [K.list, List.set_append_right _ _ (by rw [List.length_map, K.at_]; omega), List.length_map, K.at_, Nat.sub_self]; rfl
    have hrep := hx (hR.agree (ag fun b hb => by simp [hb]) K.rep)
    refine ⟨L1 ++ ⟨A ++ N ++ C, x', f⟩ :: L2, fr, by rw [hlist]; simp, by rw [fpE_append, fpE_cons]; exact K.foot, ?_, fun s hs => ?_⟩
    · rw [cellsE_append, cellsE_cons]; simpa [List.append_assoc] using s1
    · rcases List.mem_append.1 hs with q | q
      · exact (K.e1.agree hR (ag fun b hb => by simp [hb])) s q
      · rcases List.mem_cons.1 q with rfl | q
        · refine ⟨?_, hrep⟩
          have := K.len
          simp only [List.length_append] at this ⊢; omega
        · exact (K.e2.agree hR (ag fun b hb => by simp [hb])) s q
theorem Lens.nodup (hR : GoodF R) (K : Lens e sz R h v l fp i x c f L1 L2 fr) (hnd : fp.Nodup) {f' : List Nat} (hf : ∀ b ∈ f', b ∈ f ∨ h b = none) (hn : f'.Nodup) : (fr ++ (fpE L1 ++ (f' ++ fpE L2))).Nodup := by
  rw [K.foot] at hnd
  obtain ⟨n1, n2, n3⟩ := List.nodup_append.1 hnd
  obtain ⟨n4, n5, n6⟩ := List.nodup_append.1 n2
  obtain ⟨n7, n8, n9⟩ := List.nodup_append.1 n5
  have lr := K.row.live
  have ll1 := K.e1.live hR
  have ll2 := K.e2.live hR
  have dead : ∀ b, (h b).isSome = true → h b ≠ none := fun b hb e => by rw [e] at hb; cases hb
  refine List.nodup_append.2 ⟨n1, List.nodup_append.2 ⟨n4, List.nodup_append.2 ⟨hn, n8, fun a ha b hb e => ?_⟩, fun a ha b hb e => ?_⟩, fun a ha b hb e => ?_⟩
  · subst e
    rcases hf a ha with q | q
    · exact n9 a q a hb rfl
    · exact dead a (ll2 a hb) q
  · subst e
    rcases List.mem_append.1 hb with hb | hb
    · rcases hf a hb with q | q
      · exact n6 a ha a (by simp [q]) rfl
      · exact dead a (ll1 a ha) q
    · exact n6 a ha a (by simp [hb]) rfl
  · subst e
    rcases List.mem_append.1 hb with hb | hb
    · exact n3 a ha a (by simp [hb]) rfl
    · rcases List.mem_append.1 hb with hb | hb
      · rcases hf a hb with q | q
        · exact n3 a ha a (by simp [q]) rfl
        · exact dead a (lr a ha) q
      · exact n3 a ha a (by simp [hb]) rfl
/-- The part's own blocks have changed (into h1), then some cells of the part are set. -/
theorem Lens.upd (hR : GoodF R) (K : Lens e sz R h v l fp i x c f L1 L2 fr) (hnd : fp.Nodup) {h1 : H} (hk : KeptH h h1 f) {o : Nat} {N A B C : List Value} (hc : c = A ++ B ++ C) (ho : A.length = o) (hN : N.length = B.length) (hne : B ≠ []) :
    Writable h1 ((vaddr v).add (i * sz + o)) N.length ∧ (∀ b, b ∉ fr → (h1.sets ((vaddr v).add (i * sz + o)) N) b = h1 b) ∧
    ∀ x' f', R (h1.sets ((vaddr v).add (i * sz + o)) N) (A ++ N ++ C) x' f' → SlF e sz R (h1.sets ((vaddr v).add (i * sz + o)) N) v (l.set i x') (fr ++ (fpE L1 ++ (f' ++ fpE L2))) := by
  subst hc
  have hnd0 := hnd
  rw [K.foot] at hnd
  obtain ⟨n1, n2, n3⟩ := List.nodup_append.1 hnd
  obtain ⟨n4, n5, n6⟩ := List.nodup_append.1 n2
  obtain ⟨n7, n8, n9⟩ := List.nodup_append.1 n5
  have ar : Agree h h1 fr := hk.agree K.row.live fun b hb hf => n3 b hb b (by simp [hf]) rfl
  have a1 : Agree h h1 (fpE L1) := hk.agree (K.e1.live hR) fun b hb hf => n6 b hb b (by simp [hf]) rfl
  have a2 : Agree h h1 (fpE L2) := hk.agree (K.e2.live hR) fun b hb hf => n9 b hf b hb rfl
  have hrow : RowF h1 e sz v ((cellsE L1 ++ A) ++ B ++ (C ++ cellsE L2)) fr := by have := K.row.agree ar; simpa [List.append_assoc] using this
  have hA : (cellsE L1 ++ A).length = i * sz + o := by rw [List.length_append, K.pre, ho]
  obtain ⟨s1, s2⟩ := set_rowF hrow hN hne
  rw [hA] at s1 s2
  refine ⟨?_, s2, fun x' f' hx => ?_⟩
  · have h1 := hrow.row0.len
    have h2 := hrow.row0.fit
    refine hrow.row0.writable ?_
    obtain ⟨a, n, cc, rfl, _, h3⟩ := h2
    simp only [vlen_sl, vcap_sl, List.length_append] at h1 hA ⊢
    have : n * sz ≤ cc * sz := Nat.mul_le_mul_right _ h3
    omega
  · have hlist : l.set i x' = L1.map El.x ++ x' :: L2.map El.x := by
      rw [K.list, List.set_append_right _ _ (by rw [List.length_map, K.at_]; omega), List.length_map, K.at_, Nat.sub_self]; rfl
    have b1 : Agree h1 (h1.sets ((vaddr v).add (i * sz + o)) N) (fpE L1) := fun b hb => s2 b fun hr => n3 b hr b (by simp [hb]) rfl
    have b2 : Agree h1 (h1.sets ((vaddr v).add (i * sz + o)) N) (fpE L2) := fun b hb => s2 b fun hr => n3 b hr b (by simp [hb]) rfl
    refine ⟨L1 ++ ⟨A ++ N ++ C, x', f'⟩ :: L2, fr, by rw [hlist]; simp, by rw [fpE_append, fpE_cons], ?_, fun s hs => ?_⟩
    · rw [cellsE_append, cellsE_cons]; simpa [List.append_assoc] using s1
    · rcases List.mem_append.1 hs with q | q
      · exact ((K.e1.agree hR a1).agree hR b1) s q
      · rcases List.mem_cons.1 q with rfl | q
        · refine ⟨?_, hx⟩
          have := K.len
          simp only [List.length_append] at this ⊢; omega
        · exact ((K.e2.agree hR a2).agree hR b2) s q
end
theorem h_store {P : Program} {R : Value → List (List Value) → H → Prop} {G : List Value} {L : Lv} {h : H} {p : PE} {l : List SV} {k : Out} (ad : Addr) (N : List Value) (hp : p.den G = ad) (hN : SV.denL G dE l = N) (h1 : Writable h ad N.length)
    (h2 : holds P R k G L (h.sets ad N)) : holds P R (.store p l k) G L h := by
  subst hp; subst hN
  have : (SV.denL G dE l).length = l.length := by simp [SV.denL_eq]
  rw [this] at h1
  exact ⟨h1, h2⟩
end Go.Proofs.Ytibdneedfopcoaa
