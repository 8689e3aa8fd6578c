/-
  A worklist of facts: what flow's Solve computes, for facts of one cell. Conditions: as the contract says (what is handed in does as it is told to).
-/
import Derived.Test.YtbgfabppmobpgaaDoorR4Q
set_option linter.unusedVariables false
set_option linter.unusedSimpArgs false
namespace Go.Proofs.YtbgfabppmobpgaaDoor
open Go

theorem CallvSpec.mono {P : Program} {h : H} {fv : Value} {args : List Value} {Q K : Value → H → Prop} (hc : CallvSpec P h fv args Q) (hk : ∀ v h', Q v h' → K v h') : CallvSpec P h fv args K := by
  obtain ⟨f, a, b, h1, h2, h3⟩ := hc
  exact ⟨f, a, b, h1, h2, h3.mono fun v cs' h' ⟨e, q⟩ => ⟨e, hk v h' q⟩⟩
theorem h_callv {P : Program} {R : Value → List (List Value) → H → Prop} {G : List Value} {L : Lv} {h : H} {fv : SV} {args : List SV} {rs : List (Bool × List Sh)} {k : Out} {Q : Value → H → Prop}
    (hc : CallvSpec P h (fv.den G dE) (SV.denL G dE args) Q) (hk : ∀ v h', Q v h' → ∃ xs, FitsL (rshs rs) xs ∧ v = rval rs xs ∧ holds P R k (G ++ xs) L h') : holds P R (.callv fv args rs k) G L h := hc.mono hk
/-- A call of a function value that is known. -/
theorem CallvSpec.of {P : Program} {h : H} {f : FuncId} {a b : Array Value} {args : List Value} {Q : Value → H → Prop} (he : ∀ xs w, (callFunc f xs).run P w = .ok (.enter f xs) w) (hc : CallsA P f (fun _ => a.toList ++ args ++ b.toList) [] h (Ret Q)) :
    CallvSpec P h (.func (.func f) a b) args Q := ⟨f, a, b, rfl, he, hc⟩
/-- A fact of its own is set into a row of one-celled facts. -/
theorem SlF.put1 {α : Type} {e : TypeId} {R : RepF α} {h : H} {v : Value} {l : List α} {fp : List Nat} {i : Nat} {x : α} (hR : GoodF R) (k : SlF e 1 R h v l fp) (hnd : fp.Nodup) (hi : l[i]? = some x) {c' : Value} {x' : α} {f' : List Nat} (hx : R h [c'] x' f') (hfr : ∀ b ∈ f', b ∉ fp) (hn : f'.Nodup) :
    Writable h ((vaddr v).add (i * 1)) 1 ∧ ∃ fp', SlF e 1 R (h.sets ((vaddr v).add (i * 1)) [c']) v (l.set i x') fp' ∧ fp'.Nodup ∧ (∀ b ∈ fp', b ∈ fp ∨ b ∈ f') ∧ KeptH h (h.sets ((vaddr v).add (i * 1)) [c']) fp := by
  obtain ⟨c, f, L1, L2, fr, K⟩ := k.lens hi
  obtain ⟨c0, rfl⟩ : ∃ c0, c = [c0] := List.length_eq_one_iff.1 K.len
  obtain ⟨w1, w2, w3⟩ := K.upd hR hnd (KeptH.refl h f) (o := 0) (N := [c']) (A := []) (B := [c0]) (C := []) rfl rfl rfl (by simp)
  rw [Nat.add_zero] at w1 w2 w3
  have hsub : ∀ b ∈ fr, b ∈ fp := fun b hb => by rw [K.foot]; simp [hb]
  have hx' : R (h.sets ((vaddr v).add (i * 1)) [c']) ([] ++ [c'] ++ []) x' f' := hR.agree (fun b hb => w2 b fun q => hfr b hb (hsub b q)) hx
  have live := hR.live hx
  refine ⟨w1, _, w3 x' f' hx', ?_, fun b hb => ?_, fun b hb _ => w2 b fun q => hb (hsub b q)⟩
  · have hnd' := hnd
    rw [K.foot] at hnd'
    obtain ⟨n1, n2, n3⟩ := List.nodup_append.1 hnd'
    obtain ⟨n4, n5, n6⟩ := List.nodup_append.1 n2
    obtain ⟨n7, n8, n9⟩ := List.nodup_append.1 n5
    have hf : ∀ a ∈ f', a ∉ fr ++ (fpE L1 ++ (f ++ fpE L2)) := fun a ha hb => hfr a ha (by rw [K.foot]; exact hb)
    refine List.nodup_append.2 ⟨n1, List.nodup_append.2 ⟨n4, List.nodup_append.2 ⟨hn, n8, fun a ha b hb e => ?_⟩, fun a ha b hb e => ?_⟩, fun a ha b hb e => ?_⟩
    · subst e; exact hf a ha (by simp [hb])
    · subst e
      rcases List.mem_append.1 hb with hb | hb
      · exact hf a hb (by simp [ha])
      · exact n6 a ha a (by simp [hb]) rfl
    · subst e
      rcases List.mem_append.1 hb with hb | hb
      · exact n3 a ha a (by simp [hb]) rfl
      · rcases List.mem_append.1 hb with hb | hb
        · exact hf a hb (by simp [ha])
        · exact n3 a ha a (by simp [hb]) rfl
  · simp only [List.mem_append] at hb
    rw [K.foot]
    simp only [List.mem_append]
    rcases hb with q | q | q | q
    · exact .inl (.inl q)
    · exact .inl (.inr (.inl q))
    · exact .inr q
    · exact .inl (.inr (.inr (.inr q)))
/-- A part's cell, and what it stands for. -/
theorem SlF.get1 {α : Type} {e : TypeId} {R : RepF α} {h : H} {v : Value} {l : List α} {fp : List Nat} {i : Nat} {x : α} (k : SlF e 1 R h v l fp) (hi : l[i]? = some x) :
    ∃ c f, R h [c] x f ∧ Reads h ((vaddr v).add (i * 1)) [c] ∧ ∀ b ∈ f, b ∈ fp := by
  obtain ⟨c, f, L1, L2, fr, K⟩ := k.lens hi
  obtain ⟨c0, rfl⟩ : ∃ c0, c = [c0] := List.length_eq_one_iff.1 K.len
  exact ⟨c0, f, K.rep, K.reads (o := 0) fun k z hk => by obtain ⟨rfl, rfl⟩ := get_one hk; rfl, fun b hb => by rw [K.foot]; simp [hb]⟩

/-! ### What Solve holds -/
section
variable {A : Type} {e : TypeId} {RF : RepF A} {h0 h h' : H} {va vt vr vm : Value} {l : List A} {T : List (List Nat)} {q : List Nat} {fA fT fQ : List Nat}
end
theorem mem_ofNat {n : Nat} {q : List Nat} : (n : Int) ∈ q.map Int.ofNat ↔ n ∈ q := by
  rw [List.mem_map]
  exact ⟨fun ⟨m, h1, h2⟩ => by have : m = n := Int.ofNat.inj h2
                               subst this; exact h1, fun h => ⟨n, h, rfl⟩⟩
theorem put_ofNat {n : Nat} {q : List Nat} : (if (n : Int) ∈ q.map Int.ofNat then q.map Int.ofNat else q.map Int.ofNat ++ [(n : Int)]) = (if n ∈ q then q else q ++ [n]).map Int.ofNat := by
  by_cases h : n ∈ q
  · rw [if_pos h, if_pos (mem_ofNat.2 h)]
  · rw [if_neg h, if_neg fun q => h (mem_ofNat.1 q)]; simp
/-- No more than there are numbers. -/
theorem nodup_len : ∀ {N : Nat} {q : List Nat}, q.Nodup → (∀ b ∈ q, b < N) → q.length ≤ N := by
  intro N q hn hl
  have := hn.length_le_of_subset (l₂ := List.range N) (fun b hb => List.mem_range.2 (hl b hb))
  rwa [List.length_range] at this

/-! ### Solve -/
/-- A number more behind a row's list. -/
theorem to_app {h : H} {v : Value} {T : List (List Nat)} {fT : List Nat} {a i : Nat} {D : List Nat} (k : SlF 29 1 IntF h v T fT) (hnd : fT.Nodup) (hD : T[a]? = some D) (hlen : D.length ≤ 10000000) :
    ∃ u, Fits .sl u ∧ Reads h ((vaddr v).add (a * 1)) [u] ∧ ∀ K' : Value → H → Prop, (∀ u' h6 fT', Writable h6 ((vaddr v).add (a * 1)) 1 → SlF 29 1 IntF (h6.sets ((vaddr v).add (a * 1)) [u']) v (T.set a (D ++ [i])) fT' → fT'.Nodup → KeptH h (h6.sets ((vaddr v).add (a * 1)) [u']) fT → (∀ b ∈ fT', b ∈ fT ∨ h b = none) → K' u' h6) →
      AppSpec h 3 1 8 ((zeroCells Tryd.prog 3).getD []) u [natV i] 1 K' := by
  obtain ⟨c, f, L1, L2, fr, K⟩ := k.lens hD
  obtain ⟨u, rfl, hu⟩ := K.rep
  have hfn := rowF_nodup hu
  refine ⟨u, hu.row0.fit, K.reads (o := 0) fun k z hk => by obtain ⟨rfl, rfl⟩ := get_one hk; rfl, fun K' HK => ?_⟩
  have hul := len_of_rowF hu
  rw [List.length_map] at hul
  refine app_rowF hu rfl zero_int (by rw [hul]; omega) fun u' h6 f6 m1 m2 m3 m4 => ?_
  have m4' : ∀ z ∈ f6, z ∈ f ∨ h z = none := fun z hz => by
    rcases m4 with rfl | ⟨z', rfl, hz'⟩
    · exact .inl hz
    · rw [List.mem_singleton] at hz; subst hz; exact .inr hz'
  obtain ⟨w1, w2, w3⟩ := K.upd intF_good hnd m3 (o := 0) (N := [u']) (A := []) (B := [u]) (C := []) rfl rfl rfl (by simp)
  rw [Nat.add_zero] at w1 w2 w3
  have hnd6 := K.nodup intF_good hnd m4' (rowF_nodup m1)
  have hfr : ∀ z ∈ f6, z ∉ fr := fun z hz hz' => by
    rcases m4' z hz with q | q
    · exact K.apart hnd z q hz'
    · have := K.row.live z hz'; rw [q] at this; cases this
  have hr6 : IntF (h6.sets ((vaddr v).add (a * 1)) [u']) ([] ++ [u'] ++ []) (D ++ [i]) f6 := ⟨u', rfl, by rw [List.map_append]; exact m1.agree fun z hz => w2 z (hfr z hz)⟩
  refine HK u' h6 _ w1 (w3 _ _ hr6) hnd6 (fun z hz hzs => ?_) fun z hz => ?_
  · have hzf : z ∉ f := fun q => hz (by rw [K.foot]; simp [q])
    have hzr : z ∉ fr := fun q => hz (by rw [K.foot]; simp [q])
    rw [w2 z hzr]; exact m3 z hzf hzs
  · simp only [List.mem_append] at hz
    rw [K.foot]; simp only [List.mem_append]
    rcases hz with q | q | q | q
    · exact .inl (.inl q)
    · exact .inl (.inr (.inl q))
    · rcases m4' z q with q | q
      · exact .inl (.inr (.inr (.inl q)))
      · exact .inr q
    · exact .inl (.inr (.inr (.inr q)))
theorem set_same {α : Type} {l : List α} {n : Nat} {x : α} (h : l[n]? = some x) : l.set n x = l := by
  apply List.ext_getElem?
  intro p
  rw [List.getElem?_set]
  by_cases e : n = p
  · subst e
    rw [if_pos rfl, h, if_pos (List.getElem?_eq_some_iff.1 h).1]
  · rw [if_neg e]
theorem le_agree' {h h' : H} {fp : List Nat} (hl : h.le h') (hv : Live h fp) : Agree h h' fp := fun b hb => by
  obtain ⟨o, ho⟩ := Option.isSome_iff_exists.1 (hv b hb)
  rw [ho, hl b o ho]
theorem cut_agree {h : H} {f g : List Nat} (hd : ∀ b ∈ g, b ∉ f) : Agree h (H.cut h f) g := fun b hb => by unfold H.cut; rw [if_neg (hd b hb)]
def Base (g h : H) (f : List Nat) : Prop := g.le h ∧ Fresh g f
theorem Base.step {g h h' : H} {f f' : List Nat} (B : Base g h f) (k : KeptH h h' f) (hf : ∀ b ∈ f', b ∈ f ∨ h b = none) : Base g h' f' := ⟨k.le B.1 B.2, fun b hb => (hf b hb).elim (B.2 b) (H.le_none B.1)⟩
theorem Base.grow {g h h' : H} {f : List Nat} (B : Base g h f) (hl : h.le h') : Base g h' f := ⟨B.1.trans hl, B.2⟩
theorem Base.cut (h : H) (f : List Nat) : Base (H.cut h f) h f := ⟨H.cut_le _ _, H.cut_fresh _ _⟩
end Go.Proofs.YtbgfabppmobpgaaDoor
