/-
  Calls by contract: what a state says behind one. Conditions: none (definitions and plain lemmas).
-/
import Derived.Test.YtibdneedfopcoaaEv12
set_option linter.unusedVariables false
set_option linter.unusedSimpArgs false
namespace Go.Proofs.Ytibdneedfopcoaa
open Go

section
variable {P : Program} {B : Beg} {G : List Value} {E : Nat → CE} {h : H} {st : St} {a : Act} {w : World}

def svsLL (i : Nat) : List (List Sh) → List (List SV)
  | [] => []
  | s :: l => Sh.svs i s :: svsLL (i + s.length) l
theorem svs_at {shs : List Sh} {xs D : List Value} {F : List Value} (hf : FitsL shs xs) : RelL (F ++ xs ++ D) E xs (Sh.svs F.length shs) := by
  obtain ⟨h1, h2, h3⟩ := svs_den (E := E) (G := F) hf
  have h4 : ∀ {xs : List Value} {shs : List Sh} {F : List Value}, FitsL shs xs → SV.scL (F.length + xs.length) (Sh.svs F.length shs) = true := by
    intro xs
    induction xs with
    | nil => intro shs F h; cases shs with | nil => rfl | cons _ _ => exact h.elim
    | cons v xs ih =>
      intro shs F h
      cases shs with
      | nil => exact h.elim
      | cons s shs =>
        have := ih (F := F ++ [v]) h.2
        simp only [List.length_append, List.length_cons, List.length_nil, Nat.zero_add] at this
        simp only [Sh.svs, SV.scL, Bool.and_eq_true]
        refine ⟨?_, by rw [show F.length + (v :: xs).length = F.length + 1 + xs.length by simp; omega]; exact this⟩
        cases s <;> simp [Sh.sv, SV.sc, X.sc, Nat.blt_eq] <;> omega
  have h5 := RelL_den (G := F ++ xs) (E := E) h2
  rw [h1] at h5
  exact h5.append (by have := h4 (F := F) hf; simpa using this)
theorem svsLL_at {D : List Value} : ∀ {csh : List (List Sh)} {vals : List (List Value)} {F : List Value}, FitsLL csh vals → ∀ (j : Nat) (c : List SV), (svsLL F.length csh)[j]? = some c →
    ∃ l : List Value, vals[j]? = some l ∧ RelL (F ++ vals.flatten ++ D) E l c
  | [], [], F, _, j, c, h => by simp [svsLL] at h
  | s :: csh, v :: vals, F, hf, 0, c, h => by
    simp only [svsLL, List.getElem?_cons_zero, Option.some.injEq] at h
    subst h
    refine ⟨v, rfl, ?_⟩
    have := svs_at (E := E) (D := vals.flatten ++ D) (F := F) hf.1
    simpa using this
  | s :: csh, v :: vals, F, hf, j + 1, c, h => by
    simp only [svsLL, List.getElem?_cons_succ] at h
    have hl : s.length = v.length := hf.1.length
    obtain ⟨l, h1, h2⟩ := svsLL_at (D := D) (F := F ++ v) hf.2 j c (by simpa [hl] using h)
    exact ⟨l, by simpa using h1, by simpa using h2⟩
theorem FitsLL.flat : ∀ {csh : List (List Sh)} {vals : List (List Value)}, FitsLL csh vals → FitsL csh.flatten vals.flatten
  | [], [], _ => trivial
  | _ :: _, _ :: _, h => by simp only [List.flatten_cons]; exact h.1.append (FitsLL.flat h.2)
theorem FitsLL.length : ∀ {csh : List (List Sh)} {vals : List (List Value)}, FitsLL csh vals → csh.length = vals.length
  | [], [], _ => rfl
  | _ :: _, _ :: _, h => by simp [FitsLL.length h.2]

def updCh : List Nat → List (List SV) → List (Nat × List SV) → List (Nat × List SV)
  | k :: ks, c :: cs, ch => updCh ks cs (chSet k c ch)
  | _, _, ch => ch
theorem updCh_keys : ∀ {ks : List Nat} {cs : List (List SV)} {ch : List (Nat × List SV)}, (updCh ks cs ch).map (·.1) = ch.map (·.1)
  | [], _, _ => by simp [updCh]
  | _ :: _, [], _ => by simp [updCh]
  | k :: ks, c :: cs, ch => by simp only [updCh]; rw [updCh_keys, chSet_keys]
theorem chSet_pair {k : Nat} {c : List SV} {ch : List (Nat × List SV)} (hp : ch.Pairwise fun x y => x.1 ≠ y.1) : (chSet k c ch).Pairwise fun x y => x.1 ≠ y.1 := by
  have h1 : List.Pairwise (fun x y : Nat => x ≠ y) (ch.map (·.1)) := List.Pairwise.map (R := fun x y : Nat × List SV => x.1 ≠ y.1) (fun x : Nat × List SV => x.1) (fun _ _ h => h) hp
  rw [← chSet_keys (k := k) (cs := c)] at h1
  exact (List.pairwise_map (R := fun x y : Nat => x ≠ y)).1 h1
theorem updCh_mem : ∀ {ks : List Nat} {cs : List (List SV)} {ch : List (Nat × List SV)} {x : Nat × List SV}, ks.length = cs.length → ch.Pairwise (fun x y => x.1 ≠ y.1) → x ∈ updCh ks cs ch →
    (x ∈ ch ∧ x.1 ∉ ks) ∨ ∃ j : Nat, ks[j]? = some x.1 ∧ cs[j]? = some x.2
  | [], [], ch, x, _, _, h => .inl ⟨h, by simp⟩
  | k :: ks, c :: cs, ch, x, hl, hp, h => by
    simp only [updCh] at h
    rcases updCh_mem (by simpa using hl) (chSet_pair hp) h with ⟨h1, h2⟩ | ⟨j, h1, h2⟩
    · rcases chSet_mem' hp h1 with ⟨h3, h4⟩ | h3
      · exact .inl ⟨h3, by simp [h2, h4]⟩
      · exact .inr ⟨0, by rw [h3]; rfl, by rw [h3]; rfl⟩
    · exact .inr ⟨j + 1, by simpa using h1, by simpa using h2⟩

/-- What a state says behind a call that was handed the chunks 'es'. -/
theorem SatW.call (hW : SatW B G E h st.ch w) {es : List (Nat × List SV)} (hes : es.Sublist st.ch) {w' : World} {h' : H} {vals : List (List Value)} {csh : List (List Sh)} {D : List Value}
    (hsc : scCh G.length st.ch = true) (hF : Frm ⟨w, h, es.map fun x => E x.1, []⟩ h' w') (hC : ChunksV (es.map fun x => E x.1) vals w') (hs : h'.sub w') (hno : ∀ c ∈ es.map (fun x => E x.1), h' c.blk = none)
    (hfit : FitsLL csh vals) (hcl : csh.map List.length = es.map fun x => x.2.length) :
    SatW B (G ++ vals.flatten ++ D) E h' (updCh (es.map (·.1)) (svsLL G.length csh) st.ch) w' := by
  have hll : ∀ i csh, (svsLL i csh).length = csh.length := by
    intro i csh
    induction csh generalizing i with
    | nil => rfl
    | cons s l ih => simp [svsLL, ih]
  have hlen : (es.map (·.1)).length = (svsLL G.length csh).length := by
    rw [hll]; have := congrArg List.length hcl; simpa using this.symm
  have hcase := fun x hx => updCh_mem (x := x) hlen hW.keys hx
  have hkeep : ∀ k cs, (k, cs) ∈ st.ch → k ∉ es.map (·.1) → w'.heap[(E k).blk]? = w.heap[(E k).blk]? ∧ h' (E k).blk = none := by
    intro k cs hm hne
    obtain ⟨_, l, hb, _⟩ := hW.chunks k cs hm
    refine hF.keep _ (heap_lt hb) (hW.hid k cs hm) ?_
    rintro ⟨c, hc, hcb⟩
    obtain ⟨y, hy, rfl⟩ := List.mem_map.1 hc
    refine dist_ne hW (hes.subset hy) hm ?_ hcb
    intro e
    exact hne (List.mem_map.2 ⟨y, hy, e⟩)
  have hget : ∀ (j k : Nat), (es.map (·.1))[j]? = some k → ∃ cs, es[j]? = some (k, cs) ∧ (k, cs) ∈ st.ch := by
    intro j k hj
    rw [List.getElem?_map, Option.map_eq_some_iff] at hj
    obtain ⟨y, hy, rfl⟩ := hj
    exact ⟨y.2, hy, hes.subset (List.mem_of_getElem? hy)⟩
  refine ⟨fun k cs hm => ?_, fun k cs hm => ?_, pair_keys updCh_keys hW.dist, fun k cs hm => ?_, hW.par, hs, ?_, hW.pre.trans (by rw [List.append_assoc]; exact List.prefix_append ..)⟩
  · rcases hcase _ hm with ⟨h1, h2⟩ | ⟨j, h1, h2⟩
    · obtain ⟨f, l, hb, hr⟩ := hW.chunks k cs h1
      refine ⟨f, l, by rw [(hkeep k cs h1 h2).1]; exact hb, ?_⟩
      have := hr.append (D := vals.flatten ++ D) (scCh_mem hsc h1)
      simpa using this
    · obtain ⟨l, h3, h4⟩ := svsLL_at (E := E) (D := D) hfit j cs h2
      obtain ⟨cs0, h5, h6⟩ := hget j k h1
      obtain ⟨f, hb⟩ := hC j (E k) l (by rw [List.getElem?_map, h5]; rfl) h3
      exact ⟨by rw [← h4.length]; exact f, l, hb, h4⟩
  · rcases hcase _ hm with ⟨h1, h2⟩ | ⟨j, h1, h2⟩
    · exact (hkeep k cs h1 h2).2
    · obtain ⟨cs0, h5, h6⟩ := hget j k h1
      exact hno _ (List.mem_map.2 ⟨_, List.mem_of_getElem? h5, rfl⟩)
  · rcases hcase _ hm with ⟨h1, h2⟩ | ⟨j, h1, h2⟩
    · exact hW.own k cs h1
    · obtain ⟨cs0, h5, h6⟩ := hget j k h1
      exact hW.own k cs0 h6
  · refine ⟨Nat.le_trans hW.frm.size hF.size, hF.os.trans hW.frm.os, hF.tape.trans hW.frm.tape, hF.out.trans hW.frm.out, fun b h1 h2 h3 => ?_⟩
    obtain ⟨k1, k2⟩ := hW.frm.keep b h1 h2 h3
    have hlt : b < w.heap.size := Nat.lt_of_lt_of_le h1 hW.frm.size
    obtain ⟨k3, k4⟩ := hF.keep b hlt k2 (by
      rintro ⟨c, hc, hcb⟩
      obtain ⟨y, hy, rfl⟩ := List.mem_map.1 hc
      rcases hW.own y.1 y.2 (hes.subset hy) with ho | ho
      · exact h3 (hcb ▸ ho)
      · omega)
    exact ⟨k3.trans k1, k4⟩
end
end Go.Proofs.Ytibdneedfopcoaa
