/-
  A worklist of facts: what flow's Solve computes, for facts of one cell. Conditions: as the contract says (what is handed in does as it is told to).
-/
import Derived.Test.YtbbicdfipheaeaaR4Q
import Derived.Test.YtbbicdfipheaeaaR5A
set_option linter.unusedVariables false
set_option linter.unusedSimpArgs false
namespace Go.Proofs.Ytbbicdfipheaeaa
open Go

theorem CallvSpec.mono {P : Program} {h : H} {fv : Value} {args : List Value} {Q K : Value → H → Prop} (hc : CallvSpec P h fv args Q) (hk : ∀ v h', Q v h' → K v h') : CallvSpec P h fv args K := by
  obtain ⟨f, a, b, h1, h2, h3⟩ := hc
  exact ⟨f, a, b, h1, h2, h3.mono fun v cs' h' ⟨e, q⟩ => ⟨e, hk v h' q⟩⟩
theorem h_callv {P : Program} {R : Value → List (List Value) → H → Prop} {G : List Value} {L : Lv} {h : H} {fv : SV} {args : List SV} {rs : List (Bool × List Sh)} {k : Out} {Q : Value → H → Prop}
    (hc : CallvSpec P h (fv.den G dE) (SV.denL G dE args) Q) (hk : ∀ v h', Q v h' → ∃ xs, FitsL (rshs rs) xs ∧ v = rval rs xs ∧ holds P R k (G ++ xs) L h') : holds P R (.callv fv args rs k) G L h := hc.mono hk
/-- A call of a function value that is known. -/
theorem CallvSpec.of {P : Program} {h : H} {f : FuncId} {a b : Array Value} {args : List Value} {Q : Value → H → Prop} (he : ∀ xs w, (callFunc f xs).run P w = .ok (.enter f xs) w) (hc : CallsA P f (fun _ => a.toList ++ args ++ b.toList) [] h (Ret Q)) :
    CallvSpec P h (.func (.func f) a b) args Q := ⟨f, a, b, rfl, he, hc⟩
/-- A fact of its own is set into a row of one-celled facts. -/
theorem SlF.put1 {α : Type} {e : TypeId} {R : RepF α} {h : H} {v : Value} {l : List α} {fp : List Nat} {i : Nat} {x : α} (hR : GoodF R) (k : SlF e 1 R h v l fp) (hnd : fp.Nodup) (hi : l[i]? = some x) {c' : Value} {x' : α} {f' : List Nat} (hx : R h [c'] x' f') (hfr : ∀ b ∈ f', b ∉ fp) (hn : f'.Nodup) :
    Writable h ((vaddr v).add (i * 1)) 1 ∧ ∃ fp', SlF e 1 R (h.sets ((vaddr v).add (i * 1)) [c']) v (l.set i x') fp' ∧ fp'.Nodup ∧ (∀ b ∈ fp', b ∈ fp ∨ b ∈ f') ∧ KeptH h (h.sets ((vaddr v).add (i * 1)) [c']) fp := by
  obtain ⟨c, f, L1, L2, fr, K⟩ := k.lens hi
  obtain ⟨c0, rfl⟩ : ∃ c0, c = [c0] := List.length_eq_one_iff.1 K.len
  obtain ⟨w1, w2, w3⟩ := K.upd hR hnd (KeptH.refl h f) (o := 0) (N := [c']) (A := []) (B := [c0]) (C := []) rfl rfl rfl (by simp)
  rw [Nat.add_zero] at w1 w2 w3
  have hsub : ∀ b ∈ fr, b ∈ fp := fun b hb => by rw [K.foot]; simp [hb]
  have hx' : R (h.sets ((vaddr v).add (i * 1)) [c']) ([] ++ [c'] ++ []) x' f' := hR.agree (fun b hb => w2 b fun q => hfr b hb (hsub b q)) hx
  have live := hR.live hx
  refine ⟨w1, _, w3 x' f' hx', ?_, fun b hb => ?_, fun b hb _ => w2 b fun q => hb (hsub b q)⟩
  · have hnd' := hnd
    rw [K.foot] at hnd'
    obtain ⟨n1, n2, n3⟩ := List.nodup_append.1 hnd'
    obtain ⟨n4, n5, n6⟩ := List.nodup_append.1 n2
    obtain ⟨n7, n8, n9⟩ := List.nodup_append.1 n5
    have hf : ∀ a ∈ f', a ∉ fr ++ (fpE L1 ++ (f ++ fpE L2)) := fun a ha hb => hfr a ha (by rw [K.foot]; exact hb)
    refine List.nodup_append.2 ⟨n1, List.nodup_append.2 ⟨n4, List.nodup_append.2 ⟨hn, n8, fun a ha b hb e => ?_⟩, fun a ha b hb e => ?_⟩, fun a ha b hb e => ?_⟩
    · subst e; exact hf a ha (by simp [hb])
    · subst e
      rcases List.mem_append.1 hb with hb | hb
      · exact hf a hb (by simp [ha])
      · exact n6 a ha a (by simp [hb]) rfl
    · subst e
      rcases List.mem_append.1 hb with hb | hb
      · exact n3 a ha a (by simp [hb]) rfl
      · rcases List.mem_append.1 hb with hb | hb
        · exact hf a hb (by simp [ha])
        · exact n3 a ha a (by simp [hb]) rfl
  · simp only [List.mem_append] at hb
    rw [K.foot]
    simp only [List.mem_append]
    rcases hb with q | q | q | q
    · exact .inl (.inl q)
    · exact .inl (.inr (.inl q))
    · exact .inr q
    · exact .inl (.inr (.inr (.inr q)))
/-- A part's cell, and what it stands for. -/
theorem SlF.get1 {α : Type} {e : TypeId} {R : RepF α} {h : H} {v : Value} {l : List α} {fp : List Nat} {i : Nat} {x : α} (k : SlF e 1 R h v l fp) (hi : l[i]? = some x) :
    ∃ c f, R h [c] x f ∧ Reads h ((vaddr v).add (i * 1)) [c] ∧ ∀ b ∈ f, b ∈ fp := by
  obtain ⟨c, f, L1, L2, fr, K⟩ := k.lens hi
  obtain ⟨c0, rfl⟩ : ∃ c0, c = [c0] := List.length_eq_one_iff.1 K.len
  exact ⟨c0, f, K.rep, K.reads (o := 0) fun k z hk => by obtain ⟨rfl, rfl⟩ := get_one hk; rfl, fun b hb => by rw [K.foot]; simp [hb]⟩

/-! ### What Solve holds -/
structure FS {A : Type} (e : TypeId) (RF : RepF A) (h0 h : H) (va vt vr vm : Value) (l : List A) (T : List (List Nat)) (q : List Nat) (fA fT fQ : List Nat) : Prop where
  le : h0.le h
  a : SlF e 1 RF h va l fA
  an : fA.Nodup
  af : Fresh h0 fA
  t : SlF 30 1 IntF h vt T fT
  tn : fT.Nodup
  tf : Fresh h0 fT
  q : QRep h vr vm (q.map Int.ofNat) fQ
  qf : Fresh h0 fQ
  d1 : ∀ b ∈ fA, b ∉ fT
  d2 : ∀ b ∈ fA, b ∉ fQ
  d3 : ∀ b ∈ fT, b ∉ fQ
section
variable {A : Type} {e : TypeId} {RF : RepF A} {h0 h h' : H} {va vt vr vm : Value} {l : List A} {T : List (List Nat)} {q : List Nat} {fA fT fQ : List Nat}
theorem FS.grow (hR : GoodF RF) (K : FS e RF h0 h va vt vr vm l T q fA fT fQ) (hl : h.le h') : FS e RF h0 h' va vt vr vm l T q fA fT fQ := by
  have k := hl.kept
  exact ⟨K.le.trans hl, K.a.agree hR (k.agree (K.a.live hR) fun b _ => by simp), K.an, K.af, K.t.agree intF_good (k.agree (K.t.live intF_good) fun b _ => by simp), K.tn, K.tf, K.q.agree (k.agree K.q.live fun b _ => by simp), K.qf, K.d1, K.d2, K.d3⟩
theorem FS.setA (hR : GoodF RF) (K : FS e RF h0 h va vt vr vm l T q fA fT fQ) (k : KeptH h h' fA) {l' : List A} {f' : List Nat} (ha : SlF e 1 RF h' va l' f') (hn : f'.Nodup) (hf : ∀ b ∈ f', b ∈ fA ∨ h b = none) : FS e RF h0 h' va vt vr vm l' T q f' fT fQ := by
  have new : ∀ {g : List Nat}, Live h g → (∀ b ∈ fA, b ∉ g) → ∀ b ∈ f', b ∉ g := fun hl hd b hb hg => by
    rcases hf b hb with p | p
    · exact hd b p hg
    · have := hl b hg; rw [p] at this; cases this
  exact ⟨k.le K.le K.af, ha, hn, fun b hb => (hf b hb).elim (K.af b) (H.le_none K.le), K.t.agree intF_good (k.agree (K.t.live intF_good) fun b hb hb' => K.d1 b hb' hb), K.tn, K.tf, K.q.agree (k.agree K.q.live fun b hb hb' => K.d2 b hb' hb), K.qf,
    new (K.t.live intF_good) K.d1, new K.q.live K.d2, K.d3⟩
theorem FS.setT (hR : GoodF RF) (K : FS e RF h0 h va vt vr vm l T q fA fT fQ) (k : KeptH h h' fT) {T' : List (List Nat)} {f' : List Nat} (ha : SlF 30 1 IntF h' vt T' f') (hn : f'.Nodup) (hf : ∀ b ∈ f', b ∈ fT ∨ h b = none) : FS e RF h0 h' va vt vr vm l T' q fA f' fQ := by
  refine ⟨k.le K.le K.tf, K.a.agree hR (k.agree (K.a.live hR) K.d1), K.an, K.af, ha, hn, fun b hb => (hf b hb).elim (K.tf b) (H.le_none K.le), K.q.agree (k.agree K.q.live fun b hb hb' => K.d3 b hb' hb), K.qf, fun b hb hb' => ?_, K.d2, fun b hb hb' => ?_⟩
  · rcases hf b hb' with p | p
    · exact K.d1 b hb p
    · have := K.a.live hR b hb; rw [p] at this; cases this
  · rcases hf b hb with p | p
    · exact K.d3 b p hb'
    · have := K.q.live b hb'; rw [p] at this; cases this
theorem FS.setQ (hR : GoodF RF) (K : FS e RF h0 h va vt vr vm l T q fA fT fQ) (k : KeptH h h' fQ) {q' : List Nat} {vr' vm' : Value} {f' : List Nat} (ha : QRep h' vr' vm' (q'.map Int.ofNat) f') (hf : ∀ b ∈ f', b ∈ fQ ∨ h b = none) : FS e RF h0 h' va vt vr' vm' l T q' fA fT f' := by
  refine ⟨k.le K.le K.qf, K.a.agree hR (k.agree (K.a.live hR) K.d2), K.an, K.af, K.t.agree intF_good (k.agree (K.t.live intF_good) K.d3), K.tn, K.tf, ha, fun b hb => (hf b hb).elim (K.qf b) (H.le_none K.le), K.d1, fun b hb hb' => ?_, fun b hb hb' => ?_⟩
  · rcases hf b hb' with p | p
    · exact K.d2 b hb p
    · have := K.a.live hR b hb; rw [p] at this; cases this
  · rcases hf b hb' with p | p
    · exact K.d3 b hb p
    · have := K.t.live intF_good b hb; rw [p] at this; cases this
end
theorem mem_ofNat {n : Nat} {q : List Nat} : (n : Int) ∈ q.map Int.ofNat ↔ n ∈ q := by
  rw [List.mem_map]
  exact ⟨fun ⟨m, h1, h2⟩ => by have : m = n := Int.ofNat.inj h2
                               subst this; exact h1, fun h => ⟨n, h, rfl⟩⟩
theorem put_ofNat {n : Nat} {q : List Nat} : (if (n : Int) ∈ q.map Int.ofNat then q.map Int.ofNat else q.map Int.ofNat ++ [(n : Int)]) = (if n ∈ q then q else q ++ [n]).map Int.ofNat := by
  by_cases h : n ∈ q
  · rw [if_pos h, if_pos (mem_ofNat.2 h)]
  · rw [if_neg h, if_neg fun q => h (mem_ofNat.1 q)]; simp
/-- No more than there are numbers. -/
theorem nodup_len : ∀ {N : Nat} {q : List Nat}, q.Nodup → (∀ b ∈ q, b < N) → q.length ≤ N := by
  intro N q hn hl
  have := hn.length_le_of_subset (l₂ := List.range N) (fun b hb => List.mem_range.2 (hl b hb))
  rwa [List.length_range] at this

/-! ### Solve -/
/-- A fact's value, of its cell. -/
def mkV (c : Value) : Value := c
def shV : Sh := .int .i64
/-- What is handed in does as it is told to. -/
structure FlowC {A : Type} (F : FlowS A) (e : TypeId) (RF : RepF A) (h0 : H) (vF vFi vJ vP : Value) : Prop where
  fits : FitsL [.fn, .fn, .fn, .fn] [vF, vFi, vJ, vP]
  shape : ∀ {h c x f}, RF h [c] x f → Fits shV c
  good : GoodF RF
  frm : ∀ {h b}, h0.le h → b < F.N → CallvSpec Try.prog h vF [natV b] fun v h' => h.le h' ∧ OwnInts h h' v ((F.frm b).map Int.ofNat) ∧ (F.frm b).length ≤ 1000
  first : ∀ {h b}, h0.le h → b < F.N → CallvSpec Try.prog h vFi [natV b] fun v h' => h.le h' ∧ ∃ c f, v = mkV c ∧ RF h' [c] (F.first b) f ∧ Fresh h f ∧ f.Nodup
  pass : ∀ {h b x c f}, h0.le h → b < F.N → F.ok b x → RF h [c] x f → CallvSpec Try.prog h vP [natV b, mkV c] fun v h' => h.le h' ∧ ∃ c' f', v = mkV c' ∧ RF h' [c'] (F.pass b x) f' ∧ Fresh h f' ∧ f'.Nodup
  join : ∀ {h va l fp i x a y c f}, h0.le h → SlF e 1 RF h va l fp → fp.Nodup → Fresh h0 fp → l[i]? = some x → i < F.N → a ∈ F.frm i → F.ok i x → F.ok a y → RF h [c] (F.pass a y) f → (∀ b ∈ f, b ∉ fp) → 
    CallvSpec Try.prog h vJ [.pointer (some ((vaddr va).add (i * 1))), mkV c] fun v h' => v = .bool (F.chg x (F.pass a y)) ∧ ∃ fp', SlF e 1 RF h' va (l.set i (F.join x (F.pass a y))) fp' ∧ fp'.Nodup ∧ KeptH h h' fp ∧ ∀ b ∈ fp', b ∈ fp ∨ h b = none
/-- Which blocks each is told to, after so many of them, and so many of the next one's. -/
def ToI {A : Type} (F : FlowS A) (i j : Nat) (T : List (List Nat)) : Prop :=
  T.length = F.N ∧ ∀ {a D}, T[a]? = some D → (∀ n, n ∈ D ↔ (n < i ∧ a ∈ F.frm n) ∨ (n = i ∧ a ∈ (F.frm i).take j)) ∧ D.length ≤ i * 1000 + j
theorem ToI.next {A : Type} {F : FlowS A} {i : Nat} {T : List (List Nat)} (K : ToI F i (F.frm i).length T) (hl : (F.frm i).length ≤ 1000) : ToI F (i + 1) 0 T := by
  refine ⟨K.1, fun {a D} h => ?_⟩
  obtain ⟨h1, h2⟩ := K.2 h
  refine ⟨fun n => ?_, Nat.le_trans h2 (by clear h1 h2 h; omega)⟩
  rw [h1, List.take_length, List.take_zero]
  constructor
  · rintro (⟨p, q⟩ | ⟨rfl, q⟩)
    · exact .inl ⟨by omega, q⟩
    · exact .inl ⟨by omega, q⟩
  · rintro (⟨p, q⟩ | ⟨_, q⟩)
    · by_cases e : n = i
      · subst e; exact .inr ⟨rfl, q⟩
      · exact .inl ⟨by omega, q⟩
    · cases q
theorem ToI.put {A : Type} {F : FlowS A} {i j a : Nat} {T : List (List Nat)} {D : List Nat} (K : ToI F i j T) (ha : (F.frm i)[j]? = some a) (hD : T[a]? = some D) : ToI F i (j + 1) (T.set a (D ++ [i])) := by
  have htk : (F.frm i).take (j + 1) = (F.frm i).take j ++ [a] := by rw [List.take_add_one, ha]; rfl
  have hlt := (List.getElem?_eq_some_iff.1 hD).1
  refine ⟨by rw [List.length_set]; exact K.1, fun {c E} h => ?_⟩
  by_cases e : c = a
  · subst e
    rw [List.getElem?_set_self hlt] at h
    cases h
    obtain ⟨h1, h2⟩ := K.2 hD
    refine ⟨fun n => ?_, by simp; omega⟩
    rw [List.mem_append, h1, htk, List.mem_append, List.mem_singleton]
    constructor
    · rintro ((p | ⟨rfl, p⟩) | rfl)
      · exact .inl p
      · exact .inr ⟨rfl, .inl p⟩
      · exact .inr ⟨rfl, .inr (by simp)⟩
    · rintro (p | ⟨rfl, p | p⟩)
      · exact .inl (.inl p)
      · exact .inl (.inr ⟨rfl, p⟩)
      · exact .inr rfl
  · rw [List.getElem?_set_ne (fun q => e q.symm)] at h
    obtain ⟨h1, h2⟩ := K.2 h
    refine ⟨fun n => ?_, by omega⟩
    rw [h1, htk, List.mem_append, List.mem_singleton]
    constructor
    · rintro (p | ⟨rfl, p⟩)
      · exact .inl p
      · exact .inr ⟨rfl, .inl p⟩
    · rintro (p | ⟨rfl, p | p⟩)
      · exact .inl p
      · exact .inr ⟨rfl, p⟩
      · exact absurd p e
/-- A number more behind a row's list. -/
theorem to_app {h : H} {v : Value} {T : List (List Nat)} {fT : List Nat} {a i : Nat} {D : List Nat} (k : SlF 30 1 IntF h v T fT) (hnd : fT.Nodup) (hD : T[a]? = some D) (hlen : D.length ≤ 10000000) :
    ∃ u, Fits .sl u ∧ Reads h ((vaddr v).add (a * 1)) [u] ∧ ∀ K' : Value → H → Prop, (∀ u' h6 fT', Writable h6 ((vaddr v).add (a * 1)) 1 → SlF 30 1 IntF (h6.sets ((vaddr v).add (a * 1)) [u']) v (T.set a (D ++ [i])) fT' → fT'.Nodup → KeptH h (h6.sets ((vaddr v).add (a * 1)) [u']) fT → (∀ b ∈ fT', b ∈ fT ∨ h b = none) → K' u' h6) →
      AppSpec h 3 1 8 ((zeroCells Try.prog 3).getD []) u [natV i] 1 K' := by
  obtain ⟨c, f, L1, L2, fr, K⟩ := k.lens hD
  obtain ⟨u, rfl, hu⟩ := K.rep
  have hfn := rowF_nodup hu
  refine ⟨u, hu.row0.fit, K.reads (o := 0) fun k z hk => by obtain ⟨rfl, rfl⟩ := get_one hk; rfl, fun K' HK => ?_⟩
  have hul := len_of_rowF hu
  rw [List.length_map] at hul
  refine app_rowF hu rfl zero_int (by rw [hul]; omega) fun u' h6 f6 m1 m2 m3 m4 => ?_
  have m4' : ∀ z ∈ f6, z ∈ f ∨ h z = none := fun z hz => by
    rcases m4 with rfl | ⟨z', rfl, hz'⟩
    · exact .inl hz
    · rw [List.mem_singleton] at hz; subst hz; exact .inr hz'
  obtain ⟨w1, w2, w3⟩ := K.upd intF_good hnd m3 (o := 0) (N := [u']) (A := []) (B := [u]) (C := []) rfl rfl rfl (by simp)
  rw [Nat.add_zero] at w1 w2 w3
  have hnd6 := K.nodup intF_good hnd m4' (rowF_nodup m1)
  have hfr : ∀ z ∈ f6, z ∉ fr := fun z hz hz' => by
    rcases m4' z hz with q | q
    · exact K.apart hnd z q hz'
    · have := K.row.live z hz'; rw [q] at this; cases this
  have hr6 : IntF (h6.sets ((vaddr v).add (a * 1)) [u']) ([] ++ [u'] ++ []) (D ++ [i]) f6 := ⟨u', rfl, by rw [List.map_append]; exact m1.agree fun z hz => w2 z (hfr z hz)⟩
  refine HK u' h6 _ w1 (w3 _ _ hr6) hnd6 (fun z hz hzs => ?_) fun z hz => ?_
  · have hzf : z ∉ f := fun q => hz (by rw [K.foot]; simp [q])
    have hzr : z ∉ fr := fun q => hz (by rw [K.foot]; simp [q])
    rw [w2 z hzr]; exact m3 z hzf hzs
  · simp only [List.mem_append] at hz
    rw [K.foot]; simp only [List.mem_append]
    rcases hz with q | q | q | q
    · exact .inl (.inl q)
    · exact .inl (.inr (.inl q))
    · rcases m4' z q with q | q
      · exact .inl (.inr (.inr (.inl q)))
      · exact .inr q
    · exact .inl (.inr (.inr (.inr q)))
theorem set_same {α : Type} {l : List α} {n : Nat} {x : α} (h : l[n]? = some x) : l.set n x = l := by
  apply List.ext_getElem?
  intro p
  rw [List.getElem?_set]
  by_cases e : n = p
  · subst e
    rw [if_pos rfl, h, if_pos (List.getElem?_eq_some_iff.1 h).1]
  · rw [if_neg e]
theorem le_agree' {h h' : H} {fp : List Nat} (hl : h.le h') (hv : Live h fp) : Agree h h' fp := fun b hb => by
  obtain ⟨o, ho⟩ := Option.isSome_iff_exists.1 (hv b hb)
  rw [ho, hl b o ho]
theorem cut_agree {h : H} {f g : List Nat} (hd : ∀ b ∈ g, b ∉ f) : Agree h (H.cut h f) g := fun b hb => by unfold H.cut; rw [if_neg (hd b hb)]
set_option maxRecDepth 4000 in
theorem s6 {A : Type} {F : FlowS A} {e : TypeId} {RF : RepF A} {h : H} {vF vFi vJ vP : Value} (hG : F.Good) (C : FlowC F e RF h vF vFi vJ vP) (hN : F.N ≤ 1000) {z0 : A}
    (hz : ∀ {h1 : H} {b : Nat}, h1 b = none → SlF e 1 RF (h1.put b (.cells (repZ ((zeroCells Try.prog 3).getD []) F.N).toArray 3 (0, 0))) (.slice (some ⟨b, 0, none⟩) F.N F.N) (List.replicate F.N z0) [b]) :
    CallsA Try.prog 6 (fun _ => [.agg #[.int .i64 (F.N : Int), vF, vFi, vJ, vP]]) [] h (Ret fun r h' => h.le h' ∧ ∃ l fp, Solved F l ∧ SlF e 1 RF h' r l fp ∧ Fresh h fp ∧ fp.Nodup) := by
  obtain ⟨f1, f2, f3, f4, -⟩ := C.fits
  refine c6 (G := [.int .i64 (F.N : Int), vF, vFi, vJ, vP]) ⟨⟨_, rfl⟩, f1, f2, f3, f4, trivial⟩ ?_
  have hR := C.good
  refine ⟨by show (0 : Int) ≤ (F.N : Int); omega, by show (F.N : Int) * 8 ≤ 281474976710656; omega, fun ba hba => ?_⟩
  show holds _ _ _ [.int .i64 (F.N : Int), vF, vFi, vJ, vP, .slice (some ⟨ba, 0, none⟩) (Int.toNat (F.N : Int)) (Int.toNat (F.N : Int))] [] (h.put ba (.cells (repZ ((zeroCells Try.prog 3).getD []) (Int.toNat (F.N : Int))).toArray 3 (0, 0)))
  rw [Int.toNat_natCast]
  have ha0 := hz hba
  have hl1 : h.le (h.put ba (.cells (repZ ((zeroCells Try.prog 3).getD []) F.N).toArray 3 (0, 0))) := H.le_put hba
  generalize h.put ba (.cells (repZ ((zeroCells Try.prog 3).getD []) F.N).toArray 3 (0, 0)) = g1 at ha0 hl1
  refine ⟨by show (0 : Int) ≤ (F.N : Int); omega, by show (F.N : Int) * 24 ≤ 281474976710656; omega, fun bt hbt => ?_⟩
  show holds _ _ _ [.int .i64 (F.N : Int), vF, vFi, vJ, vP, .slice (some ⟨ba, 0, none⟩) F.N F.N, .slice (some ⟨bt, 0, none⟩) (Int.toNat (F.N : Int)) (Int.toNat (F.N : Int))] [] (g1.put bt (.cells (repZ ((zeroCells Try.prog 30).getD []) (Int.toNat (F.N : Int))).toArray 30 (0, 0)))
  rw [Int.toNat_natCast]
  have ht0 := mk_rows (n := F.N) hbt
  have hl2 : g1.le (g1.put bt (.cells (repZ ((zeroCells Try.prog 30).getD []) F.N).toArray 30 (0, 0))) := H.le_put hbt
  generalize g1.put bt (.cells (repZ ((zeroCells Try.prog 30).getD []) F.N).toArray 30 (0, 0)) = g2 at ht0 hl2
  obtain ⟨va, hva⟩ : ∃ va, va = Value.slice (some ⟨ba, 0, none⟩) F.N F.N := ⟨_, rfl⟩
  obtain ⟨vt, hvt⟩ : ∃ vt, vt = Value.slice (some ⟨bt, 0, none⟩) F.N F.N := ⟨_, rfl⟩
  have hvl : vlen va = F.N := by rw [hva]; rfl
  have htl : vlen vt = F.N := by rw [hvt]; rfl
  rw [← hva] at ha0 ⊢
  rw [← hvt] at ht0 ⊢
  have hne : ba ≠ bt := fun q => by
    have := ha0.live hR ba (by simp)
    rw [q, hbt] at this; cases this
  have K0 : FS e RF h g2 va vt (.slice none 0 0) (.map none) (List.replicate F.N z0) (List.replicate F.N []) [] [ba] [bt] [] :=
    ⟨hl1.trans hl2, ha0.agree hR (hl2.kept.agree (ha0.live hR) fun b _ => by simp), by simp, (fun b hb => by rw [List.mem_singleton] at hb; subst hb; exact hba), ht0, by simp, (fun b hb => by rw [List.mem_singleton] at hb; subst hb; exact H.le_none hl1 hbt), QRep.nil, (fun b hb => by cases hb),
      (fun b hb hb' => by rw [List.mem_singleton] at hb hb'; subst hb; exact hne hb'), (fun b _ hb' => by cases hb'), fun b _ hb' => by cases hb'⟩
  refine h_loop (fun xs h' => ∃ (i : Nat) (vr vm : Value) (T : List (List Nat)) (fA fT fQ : List Nat), xs = [natV i, vr, vm] ∧ i ≤ F.N ∧ ToI F i 0 T ∧ FS e RF h h' va vt vr vm ((List.range F.N).map fun m => if m < i then F.first m else z0) T (List.range i) fA fT fQ)
    (fun xs h' => F.N - (vi (gv xs 0)).toNat) ⟨0, .slice none 0 0, .map none, List.replicate F.N [], [ba], [bt], [], rfl, Nat.zero_le _, ⟨by simp, fun {a D} h => ?_⟩, ?_⟩ ?_
  · rw [List.getElem?_replicate] at h
    split at h
    · cases h; exact ⟨fun n => by simp, by simp⟩
    · cases h
  · have : ((List.range F.N).map fun m => if m < 0 then F.first m else z0) = List.replicate F.N z0 := by
      apply List.ext_getElem?
      intro i
      rw [List.getElem?_map, List.getElem?_replicate]
      by_cases hi : i < F.N
      · rw [List.getElem?_range hi, if_pos hi]; rfl
      · rw [List.getElem?_eq_none (by simpa using hi), if_neg hi]; rfl
    rw [this]; exact K0
  rintro xs g3 J - ⟨i, vr, vm, T, fA, fT, fQ, rfl, hi, hT, K⟩ hJ
  simp only [List.cons_append, List.nil_append]
  have hql : ∀ {i : Nat}, i ≤ F.N → ((List.range i).map Int.ofNat).length ≤ 1000000 := fun {i} h => by simp; omega
  refine h_ite (fun hc => ?_) (fun hc => ?_)
  · replace hc : cmpOp .lss (i : Int) (F.N : Int) = true := hc
    rw [cmp_lss, decide_eq_true_eq] at hc
    have hiN : i < F.N := by omega
    refine h_callv (C.first K.le hiN) ?_
    rintro v g4 ⟨hl4, c, f, hv4, hc4, hf4, hn4⟩
    refine ⟨[c], ⟨C.shape hc4, trivial⟩, hv4, ?_⟩
    simp only [List.cons_append, List.nil_append]
    have K4 := K.grow hR hl4
    have nda : ∀ D : List Value, needs (.int .i64 (F.N : Int) :: vF :: vFi :: vJ :: vP :: va :: vt :: natV i :: D) [(.cmp .geq (.var 7) (.lit 0)), (.cmp .lss (.var 7) (.len 5))] := fun D => by
      refine ⟨ge0 i, ?_, trivial⟩
      show cmpOp .lss (i : Int) ((vlen va : Nat) : Int) = true
      rw [hvl]; exact ltN hiN
    have hget : ((List.range F.N).map fun m => if m < i then F.first m else z0)[i]? = some z0 := by
      rw [List.getElem?_map, List.getElem?_range hiN]; simp
    have hset : ((List.range F.N).map fun m => if m < i then F.first m else z0).set i (F.first i) = (List.range F.N).map fun m => if m < i + 1 then F.first m else z0 := by
      apply List.ext_getElem?
      intro p
      rw [List.getElem?_set, List.length_map, List.length_range, List.getElem?_map, List.getElem?_map]
      by_cases hp : p < F.N
      · rw [List.getElem?_range hp]
        by_cases q : i = p
        · subst q; rw [if_pos rfl, if_pos hp]; simp
        · rw [if_neg q]
          simp only [Option.map_some, Option.some.injEq]
          have : (p < i) = (p < i + 1) := by rw [eq_iff_iff]; omega
          simp only [this]
      · rw [List.getElem?_eq_none (l := List.range F.N) (by simpa using hp)]
        rw [if_neg (by omega)]; rfl
    obtain ⟨w1, fA', w2, w3, w4, w5⟩ := K4.a.put1 hR K4.an hget hc4 (fun b hb hb' => by have := hf4 b hb; have q := K.a.live hR b hb'; rw [this] at q; cases q) hn4
    refine ⟨fun _ => nda _, h_store ((vaddr va).add (i * 1)) [c] rfl (by obtain ⟨n, rfl⟩ := C.shape hc4; rfl) w1 ?_⟩
    have K5 := K.setA hR ((hl4.kept.mono (by simp)).trans w5) w2 w3 (fun b hb => (w4 b hb).elim .inl fun q => .inr (hf4 b q))
    generalize g4.sets ((vaddr va).add (i * 1)) [c] = g5 at w2 w5 K5
    rw [hset] at w2 K5
    have hput : (if i ∈ List.range i then List.range i else List.range i ++ [i]) = List.range (i + 1) := by rw [if_neg (by simp), List.range_succ]
    refine h_call1 (Q := fun r c h' => r = .bool (decide ((i : Int) ∉ (List.range i).map Int.ofNat)) ∧ ∃ vr' vm' fp', c = [vr', vm'] ∧ QRep h' vr' vm' ((List.range (i + 1)).map Int.ofNat) fp' ∧ KeptH g5 h' fQ ∧ ∀ b ∈ fp', b ∈ fQ ∨ g5 b = none) ?_ ?_
    · have := s19k (x := (i : Int)) K5.q (hql hi)
      rw [put_ofNat, hput] at this
      exact this
    rintro _ _ g6 ⟨rfl, vr', vm', fQ', rfl, hq6, hk6, hf6⟩
    have K6 := K5.setQ hR hk6 hq6 hf6
    refine ⟨K6.q.fits, [.bool (decide ((i : Int) ∉ (List.range i).map Int.ofNat))], ⟨⟨_, rfl⟩, trivial⟩, rfl, ?_⟩
    simp only [List.cons_append, List.nil_append]
    refine h_callv (C.frm K6.le hiN) ?_
    rintro v7 g7 ⟨hl7, hv7, hlen7⟩
    refine ⟨[v7], ⟨hv7.ints.fit, trivial⟩, rfl, ?_⟩
    simp only [List.cons_append, List.nil_append]
    have K7 := K6.grow hR hl7
    have h7l : vlen v7 = (F.frm i).length := by have := hv7.ints.len; rwa [List.length_map] at this
    obtain ⟨hb, hbd⟩ : ∃ hb, hb = H.cut g7 fT := ⟨_, rfl⟩
    have hbg : hb.le g7 := by rw [hbd]; exact H.cut_le _ _
    have hbf : Fresh hb fT := by rw [hbd]; exact H.cut_fresh _ _
    have hb7 : IntsAt hb v7 ((F.frm i).map Int.ofNat) := by rw [hbd]; exact OwnInts.ints (Row.cut hv7 (K6.t.live intF_good))
    refine h_loop (fun xs h' => ∃ (j : Nat) (T' : List (List Nat)) (fT' : List Nat), xs = [natV j] ∧ j ≤ (F.frm i).length ∧ ToI F i j T' ∧ FS e RF h h' va vt vr' vm' ((List.range F.N).map fun m => if m < i + 1 then F.first m else z0) T' (List.range (i + 1)) fA' fT' fQ' ∧ hb.le h' ∧ Fresh hb fT')
      (fun xs h' => (F.frm i).length - (vi (gv xs 0)).toNat) ⟨0, T, fT, rfl, Nat.zero_le _, hT, K7, hbg, hbf⟩ ?_
    rintro xs g8 J8 - ⟨j, T', fT', rfl, hj, hT', K8, hb8, hf8⟩ hJ8
    simp only [List.cons_append, List.nil_append]
    refine h_ite (fun hc8 => ?_) (fun hc8 => ?_)
    · replace hc8 : cmpOp .lss (j : Int) ((vlen v7 : Nat) : Int) = true := hc8
      have hc8' := hc8
      rw [h7l, cmp_lss, decide_eq_true_eq] at hc8
      have hjl : j < (F.frm i).length := by omega
      have hx : (F.frm i)[j]? = some (F.frm i)[j] := List.getElem?_eq_getElem hjl
      have hxm : (F.frm i)[j] ∈ F.frm i := List.getElem_mem _
      generalize (F.frm i)[j] = a at hx hxm
      have haN := hG.frm_lt hiN hxm
      have hxi : ((F.frm i).map Int.ofNat)[j]? = some (a : Int) := by rw [List.getElem?_map, hx]; rfl
      have hD : T'[a]? = some T'[a]! := by
        have : a < T'.length := by rw [hT'.1]; exact haN
        rw [List.getElem?_eq_getElem this]; simp [this]
      generalize T'[a]! = D at hD
      have hDl := (hT'.2 hD).2
      have nda2 : ∀ D : List Value, gv D 16 = natV a → gv D 6 = vt → needs D [(.cmp .geq (.var 16) (.lit 0)), (.cmp .lss (.var 16) (.len 6))] := fun D e1 e2 => by
        simp only [needs, X.den, e1, e2, htl, vb_bool, vi_int, and_true]
        exact ⟨ge0 a, ltN haN⟩
      obtain ⟨u, hu1, hu2, hu3⟩ := to_app (i := i) K8.t K8.tn hD (by clear hT' hT; omega)
      refine ⟨fun _ => ⟨ge0 j, hc8', trivial⟩, h_load [natV a] ⟨⟨_, rfl⟩, trivial⟩ (fun _ => (hb7.le hb8).read hxi) ⟨fun _ => nda2 _ rfl rfl, h_load [u] ⟨hu1, trivial⟩ (fun _ => hu2) ?_⟩⟩
      simp only [List.cons_append, List.nil_append]
      refine ⟨[natV i], 1, ⟨rfl, rfl⟩, ?_⟩
      refine hu3 _ fun u' h9 fT9 m1 m2 m3 m4 m5 => ?_
      refine ⟨fun _ => nda2 _ rfl rfl, h_store ((vaddr vt).add (a * 1)) [u'] rfl rfl m1 ?_⟩
      have K9 := K8.setT hR m4 m2 m3 m5
      show J8 [.int .i64 (intOp .add .i64 (j : Int) 1)] _
      rw [int_add_one (n := 1000) (by omega) (by omega)]
      refine hJ8 _ _ ⟨j + 1, _, _, rfl, by omega, hT'.put hx hD, K9, m4.le hb8 hf8, fun b hb' => (m5 b hb').elim (hf8 b) (H.le_none hb8)⟩ ?_
      simp only [gv_zero, vi_int]; omega
    · replace hc8 : cmpOp .lss (j : Int) ((vlen v7 : Nat) : Int) = false := hc8
      rw [h7l, cmp_lss, decide_eq_false_iff_not] at hc8
      have hje : j = (F.frm i).length := by omega
      subst hje
      show J [.int .i64 (intOp .add .i64 (i : Int) 1), vr', vm'] g8
      rw [int_add_one (n := 1000) (by omega) (by omega)]
      refine hJ _ _ ⟨i + 1, vr', vm', T', fA', fT', fQ', rfl, by omega, hT'.next hlen7, K8⟩ ?_
      simp only [gv_zero, vi_int]; omega
  · replace hc : cmpOp .lss (i : Int) (F.N : Int) = false := hc
    rw [cmp_lss, decide_eq_false_iff_not] at hc
    have hie : i = F.N := by omega
    subst hie
    have hall : ((List.range F.N).map fun m => if m < F.N then F.first m else z0) = (List.range F.N).map F.first := by
      apply List.map_congr_left
      intro m hm
      rw [if_pos (List.mem_range.1 hm)]
    rw [hall] at K
    have hTo : ∀ {b D}, T[b]? = some D → ∀ n, n ∈ D ↔ n < F.N ∧ b ∈ F.frm n := fun h n => by
      rw [(hT.2 h).1]; simp
    refine h_loopM (fun n xs h' => ∃ (l : List A) (q : List Nat) (vr vm : Value) (fA fQ : List Nat), xs = [vr, vm] ∧ FS e RF h h' va vt vr vm l T q fA fT fQ ∧ Round F l q ∧ n = 2 * potS F.pot l + q.length) _ ⟨_, _, vr, vm, fA, fQ, rfl, K, Round.begin hG, rfl⟩ ?_
    rintro n xs g4 J4 - ⟨l, q, vr4, vm4, fA4, fQ4, rfl, K4, hRd, hn⟩ hJ4
    simp only [List.cons_append, List.nil_append]
    refine h_call1 (Q := fun r c h' => r = .int .i64 ((q.map Int.ofNat).length : Int) ∧ c = [vr4, vm4] ∧ h' = g4) ?_ ?_
    · exact s20k K4.q
    rintro _ _ g5 ⟨rfl, rfl, e5⟩
    have e5' := e5.symm
    subst e5'
    refine ⟨K4.q.fits, [.int .i64 ((q.map Int.ofNat).length : Int)], ⟨⟨_, rfl⟩, trivial⟩, rfl, ?_⟩
    simp only [List.cons_append, List.nil_append]
    refine h_ite (fun hc5 => ?_) (fun hc5 => ?_)
    · replace hc5 : cmpOp .gtr ((q.map Int.ofNat).length : Int) 0 = true := hc5
      rw [cmp_gtr, decide_eq_true_eq, List.length_map] at hc5
      obtain ⟨b, q', rfl⟩ : ∃ b q', q = b :: q' := by
        cases q with
        | nil => simp at hc5
        | cons b q' => exact ⟨b, q', rfl⟩
      have hbN := hRd.lt b (List.mem_cons_self ..)
      refine h_call1 (Q := fun r c h' => r = .tuple #[natV b, .bool true] ∧ ∃ vr', c = [vr', vm4] ∧ QRep h' vr' vm4 (q'.map Int.ofNat) fQ4 ∧ KeptH g4 h' fQ4) ?_ ?_
      · exact s21k (x := (b : Int)) (l := q'.map Int.ofNat) K4.q
      rintro _ _ g6 ⟨rfl, vr6, rfl, hq6, hk6⟩
      have K6 := K4.setQ hR hk6 hq6 fun b hb => .inl hb
      refine ⟨K6.q.fits, [natV b, .bool true], ⟨⟨_, rfl⟩, ⟨_, rfl⟩, trivial⟩, rfl, ?_⟩
      simp only [List.cons_append, List.nil_append]
      have hlt : b < l.length := by rw [hRd.len]; exact hbN
      have hbl := List.getElem?_eq_getElem hlt
      generalize l[b] = z at hbl
      have hW := hRd.take (D := T[b]!) hG hbl
      have hTb : T[b]? = some T[b]! := by
        have : b < T.length := by rw [hT.1]; exact hbN
        rw [List.getElem?_eq_getElem this]; simp [this]
      generalize T[b]! = D at hTb hW
      obtain ⟨c, f, r1, r2, r3⟩ := K6.a.get1 hbl
      have ndb : ∀ D : List Value, gv D 17 = natV b → gv D 5 = va → needs D [(.cmp .geq (.var 17) (.lit 0)), (.cmp .lss (.var 17) (.len 5))] := fun D e1 e2 => by
        simp only [needs, X.den, e1, e2, hvl, vb_bool, vi_int, and_true]
        exact ⟨ge0 b, ltN hbN⟩
      have ndb6 : ∀ D : List Value, gv D 17 = natV b → gv D 6 = vt → needs D [(.cmp .geq (.var 17) (.lit 0)), (.cmp .lss (.var 17) (.len 6))] := fun D e1 e2 => by
        simp only [needs, X.den, e1, e2, htl, vb_bool, vi_int, and_true]
        exact ⟨ge0 b, ltN hbN⟩
      refine ⟨fun _ => ndb _ rfl rfl, h_load [c] ⟨C.shape r1, trivial⟩ (fun _ => r2) ?_⟩
      simp only [List.cons_append, List.nil_append]
      have hpass := C.pass K6.le hbN (hRd.ok hbl) r1
      refine h_callv (Q := fun v h' => g6.le h' ∧ ∃ c' f', v = mkV c' ∧ RF h' [c'] (F.pass b z) f' ∧ Fresh g6 f' ∧ f'.Nodup) ?_ ?_
      · obtain ⟨nc, rfl⟩ := C.shape r1; exact hpass
      rintro v g7 ⟨hl7, co, fo, hv7, hco, hfo, hno⟩
      refine ⟨[co], ⟨C.shape hco, trivial⟩, hv7, ?_⟩
      simp only [List.cons_append, List.nil_append]
      have K7 := K6.grow hR hl7
      have oA : ∀ x ∈ fo, x ∉ fA4 := fun x hx hx' => by have := K6.a.live hR x hx'; rw [hfo x hx] at this; cases this
      have oQ : ∀ x ∈ fo, x ∉ fQ4 := fun x hx hx' => by have := K6.q.live x hx'; rw [hfo x hx] at this; cases this
      obtain ⟨u, fu, t1, t2, t3⟩ := K7.t.get1 hTb
      obtain ⟨u', eu, t4⟩ := t1
      obtain rfl : u = u' := by simpa using eu
      refine ⟨fun _ => ndb6 _ rfl rfl, h_load [u] ⟨t4.row0.fit, trivial⟩ (fun _ => t2) ?_⟩
      simp only [List.cons_append, List.nil_append]
      obtain ⟨hb, hbd⟩ : ∃ hb, hb = H.cut g7 (fA4 ++ fQ4) := ⟨_, rfl⟩
      have hbg : hb.le g7 := by rw [hbd]; exact H.cut_le _ _
      have hfr := H.cut_fresh g7 (fA4 ++ fQ4)
      rw [← hbd] at hfr
      have hbA : Fresh hb fA4 := fun x hx => hfr x (List.mem_append_left _ hx)
      have hbQ : Fresh hb fQ4 := fun x hx => hfr x (List.mem_append_right _ hx)
      have hbu : IntsAt hb u (D.map Int.ofNat) := by
        refine ints_of_nats (e := 3) (fp := fu) (t4.agree ?_)
        rw [hbd]
        exact cut_agree fun x hx hx' => by
          rcases List.mem_append.1 hx' with q | q
          · exact K7.d1 x q (t3 x hx)
          · exact K7.d3 x (t3 x hx) q
      have hbo : RF hb [co] (F.pass b z) fo := by
        rw [hbd]
        exact hR.agree (cut_agree fun x hx hx' => by
          rcases List.mem_append.1 hx' with q | q
          · exact oA x hx q
          · exact oQ x hx q) hco
      have hul : vlen u = D.length := by have := hbu.len; rwa [List.length_map] at this
      have hDl := (hT.2 hTb).2
      refine h_loop (fun xs h' => ∃ (j : Nat) (l5 : List A) (q5 : List Nat) (vr5 vm5 : Value) (fA5 fQ5 : List Nat), xs = [natV j, vr5, vm5] ∧ j ≤ D.length ∧ FS e RF h h' va vt vr5 vm5 l5 T q5 fA5 fT fQ5 ∧ Within F b z D j l5 q5 ∧ 2 * potS F.pot l5 + q5.length < n ∧ hb.le h' ∧ Fresh hb fA5 ∧ Fresh hb fQ5)
        (fun xs h' => D.length - (vi (gv xs 0)).toNat) ⟨0, l, q', vr6, vm4, fA4, fQ4, rfl, Nat.zero_le _, K7, hW, by rw [hn]; simp, hbg, hbA, hbQ⟩ ?_
      rintro xs g8 J8 - ⟨j, l5, q5, vr5, vm5, fA5, fQ5, rfl, hj, K8, hW8, hm8, hb8, hA8, hQ8⟩ hJ8
      simp only [List.cons_append, List.nil_append]
      refine h_ite (fun hc8 => ?_) (fun hc8 => ?_)
      · replace hc8 : cmpOp .lss (j : Int) ((vlen u : Nat) : Int) = true := hc8
        have hc8' := hc8
        rw [hul, cmp_lss, decide_eq_true_eq] at hc8
        have hjl : j < D.length := by omega
        have hx : D[j]? = some D[j] := List.getElem?_eq_getElem hjl
        have hxm : D[j] ∈ D := List.getElem_mem _
        generalize D[j] = m at hx hxm
        obtain ⟨hmN, hmf⟩ := (hTo hTb m).1 hxm
        have hxi : (D.map Int.ofNat)[j]? = some (m : Int) := by rw [List.getElem?_map, hx]; rfl
        have hlm : m < l5.length := by rw [hW8.len]; exact hmN
        have hml := List.getElem?_eq_getElem hlm
        generalize l5[m] = x at hml
        have ndm : ∀ D : List Value, gv D 25 = natV m → gv D 5 = va → needs D [(.cmp .geq (.var 25) (.lit 0)), (.cmp .lss (.var 25) (.len 5))] := fun D e1 e2 => by
          simp only [needs, X.den, e1, e2, hvl, vb_bool, vi_int, and_true]
          exact ⟨ge0 m, ltN hmN⟩
        refine ⟨fun _ => ⟨ge0 j, hc8', trivial⟩, h_load [natV m] ⟨⟨_, rfl⟩, trivial⟩ (fun _ => (hbu.le hb8).read hxi) ⟨fun _ => ndm _ rfl rfl, ?_⟩⟩
        simp only [List.cons_append, List.nil_append]
        have ho8 : RF g8 [co] (F.pass b z) fo := hR.agree (le_agree' hb8 (hR.live hbo)) hbo
        have hjoin := C.join K8.le K8.a K8.an K8.af hml hmN hmf (hW8.ok hml) hW8.zok ho8 (fun y hy hy' => by have := hR.live hbo y hy; rw [hA8 y hy'] at this; cases this)
        refine h_callv (Q := fun v h' => v = .bool (F.chg x (F.pass b z)) ∧ ∃ fp', SlF e 1 RF h' va (l5.set m (F.join x (F.pass b z))) fp' ∧ fp'.Nodup ∧ KeptH g8 h' fA5 ∧ ∀ b ∈ fp', b ∈ fA5 ∨ g8 b = none) ?_ ?_
        · obtain ⟨nc, rfl⟩ := C.shape hco; exact hjoin
        rintro _ g9 ⟨rfl, fA9, j1, j2, j3, j4⟩
        refine ⟨[.bool (F.chg x (F.pass b z))], ⟨⟨_, rfl⟩, trivial⟩, rfl, ?_⟩
        simp only [List.cons_append, List.nil_append]
        have K9 := K8.setA hR j3 j1 j2 j4
        have hb9 := j3.le hb8 hA8
        have hA9 : Fresh hb fA9 := fun y hy => (j4 y hy).elim (hA8 y) (H.le_none hb8)
        have nxt : intOp .add .i64 (j : Int) 1 = ((j + 1 : Nat) : Int) := int_add_one (n := 10000000) (by omega) (by omega)
        refine h_ite (fun hc9 => ?_) (fun hc9 => ?_)
        · replace hc9 : F.chg x (F.pass b z) = true := hc9
          obtain ⟨p1, p2⟩ := hW8.put hG hx hmN hmf hml hc9
          have hq5 := nodup_len hW8.nd hW8.lt
          refine h_call1 (Q := fun r c h' => r = .bool (decide ((m : Int) ∉ q5.map Int.ofNat)) ∧ ∃ vr' vm' fp', c = [vr', vm'] ∧ QRep h' vr' vm' ((if m ∈ q5 then q5 else q5 ++ [m]).map Int.ofNat) fp' ∧ KeptH g9 h' fQ5 ∧ ∀ b ∈ fp', b ∈ fQ5 ∨ g9 b = none) ?_ ?_
          · have := s19k (x := (m : Int)) K9.q (by rw [List.length_map]; omega)
            rw [put_ofNat] at this
            exact this
          rintro _ _ g10 ⟨rfl, vr', vm', fQ', rfl, hq10, hk10, hf10⟩
          have K10 := K9.setQ hR hk10 hq10 hf10
          refine ⟨K10.q.fits, [.bool (decide ((m : Int) ∉ q5.map Int.ofNat))], ⟨⟨_, rfl⟩, trivial⟩, rfl, ?_⟩
          show J8 [.int .i64 (intOp .add .i64 (j : Int) 1), vr', vm'] g10
          rw [nxt]
          refine hJ8 _ _ ⟨j + 1, _, _, vr', vm', fA9, fQ', rfl, by omega, K10, p1, ?_, hk10.le hb9 hQ8, ?_, fun y hy => (hf10 y hy).elim (hQ8 y) (H.le_none hb9)⟩ ?_
          · have : (if m ∈ q5 then q5 else q5 ++ [m]).length ≤ q5.length + 1 := by split <;> simp
            omega
          · exact hA9
          · simp only [gv_zero, vi_int]; omega
        · replace hc9 : F.chg x (F.pass b z) = false := hc9
          rw [hG.same hc9, set_same hml] at K9
          show J8 [.int .i64 (intOp .add .i64 (j : Int) 1), vr5, vm5] g9
          rw [nxt]
          refine hJ8 _ _ ⟨j + 1, l5, q5, vr5, vm5, fA9, fQ5, rfl, by omega, K9, hW8.skip hG hx hml hc9, hm8, hb9, hA9, hQ8⟩ ?_
          simp only [gv_zero, vi_int]; omega
      · replace hc8 : cmpOp .lss (j : Int) ((vlen u : Nat) : Int) = false := hc8
        rw [hul, cmp_lss, decide_eq_false_iff_not] at hc8
        have hje : j = D.length := by omega
        subst hje
        show J4 [vr5, vm5] g8
        exact hJ4 _ _ _ ⟨l5, q5, vr5, vm5, fA5, fQ5, rfl, K8, hW8.done fun n h1 h2 => (hTo hTb n).2 ⟨h1, h2⟩, rfl⟩ hm8
    · replace hc5 : cmpOp .gtr ((q.map Int.ofNat).length : Int) 0 = false := hc5
      rw [cmp_gtr, decide_eq_false_iff_not, List.length_map] at hc5
      have hq0 : q = [] := List.eq_nil_of_length_eq_zero (by omega)
      subst hq0
      exact ⟨rfl, K4.le, l, fA4, hRd.solved, K4.a, K4.af, K4.an⟩
end Go.Proofs.Ytbbicdfipheaeaa
