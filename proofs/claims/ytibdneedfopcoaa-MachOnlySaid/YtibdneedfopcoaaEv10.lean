/-
  What operations that touch memory do to what a state says: loads, stores, new rows. Conditions: none (plain lemmas).
-/
import Derived.Test.YtibdneedfopcoaaEv9
set_option linter.unusedVariables false
set_option linter.unusedSimpArgs false
namespace Go.Proofs.Ytibdneedfopcoaa
open Go

/-! ### The frame -/
def St.setT (st : St) (dst : Option Tmp) (s : SV) : St := match dst with
  | none => st
  | some d => { st with t := st.t.set d s }
section
variable {P : Program} {B : Beg} {G : List Value} {E : Nat → CE} {h : H} {st : St} {a : Act} {w : World}
theorem SatA.put (hA : SatA G E st a) (dst : Option Tmp) {v : Value} {s : SV} (hr : Rel G E v s) : SatA G E (st.setT dst s) (a.put dst v) := by
  cases dst with
  | none => exact hA
  | some d =>
    refine ⟨by simp [St.setT, Act.put, hA.size], fun i s' hi => ?_, hA.nodef, hA.fits, hA.kn⟩
    simp only [St.setT, Act.put] at hi ⊢
    rw [List.getElem?_set] at hi
    split at hi
    · rename_i hd
      subst hd
      split at hi
      · rename_i hl
        cases hi
        rw [hA.size] at hl
        simpa [Array.getD, hl] using hr
      · cases hi
    · rename_i hd
      have := hA.tmps i s' hi
      rw [Array.getD_eq_getD_getElem?] at this ⊢
      rw [Array.getElem?_setIfInBounds_ne hd]
      exact this
theorem Rel.append {v : Value} {s : SV} {D : List Value} (hr : Rel G E v s) (hs : s.sc G.length = true) : Rel (G ++ D) E v s := by
  unfold Rel at hr ⊢
  split at hr
  · trivial
  · rename_i g t
    simp only [SV.sc, Bool.and_eq_true] at hs
    rw [X.den_append hs.1, SV.den_append _ hs.2]
    exact hr
  · rename_i h1 h2
    have := SV.den_append (G := G) (D := D) (E := E) s hs
    rw [this]
    exact hr
theorem scL_get {n : Nat} : ∀ {l : List SV} {i : Nat} {s : SV}, SV.scL n l = true → l[i]? = some s → s.sc n = true
  | [], _, _, _, h => by simp at h
  | s :: l, 0, t, hl, h => by simp only [SV.scL, Bool.and_eq_true] at hl; simp at h; subst h; exact hl.1
  | s :: l, i + 1, t, hl, h => by simp only [SV.scL, Bool.and_eq_true] at hl; exact scL_get hl.2 (by simpa using h)
theorem scKn_mem {n : Nat} : ∀ {l : List (X × Bool)} {x : X} {b : Bool}, scKn n l = true → (x, b) ∈ l → x.sc n = true
  | [], _, _, _, h => by cases h
  | (y, c) :: l, x, b, hl, h => by
    simp only [scKn, Bool.and_eq_true] at hl
    rcases List.mem_cons.1 h with h | h
    · cases h; exact hl.1
    · exact scKn_mem hl.2 h
theorem scCh_mem {n : Nat} : ∀ {l : List (Nat × List SV)} {k : Nat} {cs : List SV}, scCh n l = true → (k, cs) ∈ l → SV.scL n cs = true
  | [], _, _, _, h => by cases h
  | (y, c) :: l, x, b, hl, h => by
    simp only [scCh, Bool.and_eq_true] at hl
    rcases List.mem_cons.1 h with h | h
    · cases h; exact hl.1
    · exact scCh_mem hl.2 h
theorem SatA.len (hA : SatA G E st a) : st.sh.length = G.length := hA.fits.length
theorem SatA.extend (hA : SatA G E st a) {shs : List Sh} {xs : List Value} (hsc : st.scOk = true) (hf : FitsL shs xs) : SatA (G ++ xs) E { st with sh := st.sh ++ shs } a := by
  simp only [St.scOk, Bool.and_eq_true, hA.len] at hsc
  exact ⟨hA.size, fun i s hi => (hA.tmps i s hi).append (scL_get hsc.1.1 hi), hA.nodef, hA.fits.append hf,
    fun x b hm => by rw [X.den_append (scKn_mem hsc.2 hm)]; exact hA.kn x b hm⟩
theorem RelL.append {D : List Value} : ∀ {l : List Value} {cs : List SV}, RelL G E l cs → SV.scL G.length cs = true → RelL (G ++ D) E l cs
  | [], [], _, _ => trivial
  | _ :: _, _ :: _, h, hs => by
    simp only [SV.scL, Bool.and_eq_true] at hs
    exact ⟨h.1.append hs.1, RelL.append h.2 hs.2⟩
theorem SatW.extend (hW : SatW B G E h st.ch w) (hA : SatA G E st a) (hsc : st.scOk = true) (xs : List Value) : SatW B (G ++ xs) E h st.ch w := by
  simp only [St.scOk, Bool.and_eq_true, hA.len] at hsc
  refine ⟨fun k cs hm => ?_, hW.hid, hW.dist, hW.own, hW.par, hW.hsub, hW.frm, hW.pre.trans (List.prefix_append ..)⟩
  obtain ⟨h1, l, h2, h3⟩ := hW.chunks k cs hm
  exact ⟨h1, l, h2, h3.append (scCh_mem hsc.1.2 hm)⟩
theorem Rel.env {F : Nat → CE} {f : Nat → Bool} (hf : ∀ l, f l = true → E l = F l) {v : Value} {s : SV} (hr : Rel G E v s) (hs : s.refs f = true) : Rel G F v s := by
  unfold Rel at hr ⊢
  split at hr
  · trivial
  · rename_i g t
    simp only [SV.refs] at hs
    rw [← SV.den_env hf _ hs]
    exact hr
  · rw [← SV.den_env hf _ hs]
    exact hr
theorem refsL_get {f : Nat → Bool} : ∀ {l : List SV} {i : Nat} {s : SV}, SV.refsL f l = true → l[i]? = some s → s.refs f = true
  | [], _, _, _, h => by simp at h
  | s :: l, 0, t, hl, h => by simp only [SV.refsL, Bool.and_eq_true] at hl; simp at h; subst h; exact hl.1
  | s :: l, i + 1, t, hl, h => by simp only [SV.refsL, Bool.and_eq_true] at hl; exact refsL_get hl.2 (by simpa using h)
theorem RelL.env {F : Nat → CE} {f : Nat → Bool} (hf : ∀ l, f l = true → E l = F l) : ∀ {l : List Value} {cs : List SV}, RelL G E l cs → SV.refsL f cs = true → RelL G F l cs
  | [], [], _, _ => trivial
  | _ :: _, _ :: _, h, hs => by
    simp only [SV.refsL, Bool.and_eq_true] at hs
    exact ⟨h.1.env hf hs.1, RelL.env hf h.2 hs.2⟩
theorem refsCh_mem {f : Nat → Bool} : ∀ {l : List (Nat × List SV)} {k : Nat} {cs : List SV}, refsCh f l = true → (k, cs) ∈ l → SV.refsL f cs = true
  | [], _, _, _, h => by cases h
  | (y, c) :: l, x, b, hl, h => by
    simp only [refsCh, Bool.and_eq_true] at hl
    rcases List.mem_cons.1 h with h | h
    · cases h; exact hl.1
    · exact refsCh_mem hl.2 h
theorem RelL.length : ∀ {l : List Value} {cs : List SV}, RelL G E l cs → l.length = cs.length
  | [], [], _ => rfl
  | _ :: _, _ :: _, h => by simp [RelL.length h.2]
theorem RelL.get : ∀ {l : List Value} {cs : List SV} {i : Nat} {s : SV}, RelL G E l cs → cs[i]? = some s → ∃ v, l[i]? = some v ∧ Rel G E v s
  | [], [], _, _, _, h => by simp at h
  | v :: _, _ :: _, 0, _, hr, h => by simp at h; subst h; exact ⟨v, rfl, hr.1⟩
  | _ :: _, _ :: _, i + 1, _, hr, h => by obtain ⟨v, h1, h2⟩ := RelL.get (i := i) hr.2 (by simpa using h); exact ⟨v, by simpa using h1, h2⟩

/-! ### Loads from a chunk -/
theorem CE.cell (c : CE) {cells : List SV} (hc : c.holds G E cells w) {i : Nat} {s : SV} (hi : cells[i]? = some s) (hp : s.plain = true) : w.cell? (c.at i) = some (s.den G E) := by
  obtain ⟨_, l, hb, hr⟩ := hc
  obtain ⟨v, hv, hrel⟩ := hr.get hi
  have hl := (List.getElem?_eq_some_iff.1 hv).1
  simp only [World.cell?, CE.at, hb, Option.isSome_none, Bool.false_eq_true, if_false]
  rw [List.getElem?_toArray, List.getElem?_append_left (by simp; omega), List.getElem?_append_right (by simp), Nat.add_sub_cancel_left, hv, hrel.plain hp]
def qLoad (P : Program) (st : St) (g : X) (t : TypeId) (x : Operand) : Option SV :=
  match st.opr g x with
  | .loc k off => (match chGet k st.ch, aggB P t, tsize P t with
    | some cs, some true, some n => if Nat.ble (off + n) cs.length && allPlain ((cs.drop off).take n) then some (.agg ((cs.drop off).take n)) else none
    | some cs, some false, _ => if (SV.get cs off).plain then some (SV.get cs off) else none
    | _, _, _ => none)
  | _ => none
theorem run_loadVar_agg {t : TypeId} {n : Nat} {l : List Value} {ad : Addr} (ha : aggB P t = some true) (hn : tsize P t = some n) (hl : l.length = n)
    (hc : ∀ i v, l[i]? = some v → w.cell? (ad.add i) = some v) : (loadVar t ad).run P w = .ok (.agg l.toArray) w := by
  have := run_loadCells_list (P := P) w ad l hc
  subst hl
  simp [loadVar, run_aggB ha, run_tsize hn, this]
theorem run_loadVar_one {t : TypeId} {v : Value} {ad : Addr} (ha : aggB P t = some false) (hc : w.cell? ad = some v) : (loadVar t ad).run P w = .ok v w := by
  simp [loadVar, run_aggB ha, hc]
theorem sound_load (hA : SatA G E st a) (hW : SatW B G E h st.ch w) {g : X} (hg : vb (g.den G) = true) {t : TypeId} {x : Operand} {s : SV} (hq : qLoad P st g t x = some s)
    (dst : Option Tmp) (ty : TypeId) (pos : String) (after : Array Edge) (guard : Option (Nat × Bool)) :
    s.plain = true ∧ (execOp a.eval ⟨dst, .load t x, ty, pos, after, guard⟩).run P w = .ok (.value (s.den G E)) w := by
  unfold qLoad at hq
  split at hq
  · rename_i k off hx
    have hc := opr_den hA hg hx rfl
    split at hq
    · rename_i cs n hk ha hn
      split at hq
      · rename_i hle
        simp only [Bool.and_eq_true, Nat.ble_eq] at hle
        cases hq
        refine ⟨rfl, ?_⟩
        have hch := hW.chunks k cs (chGet_mem hk)
        have hl : (SV.denL G E ((cs.drop off).take n)).length = n := by simp [SV.denL_eq]; omega
        have := run_loadVar_agg (P := P) (w := w) (ad := (E k).at off) ha hn hl (fun i v hv => by
          rw [at_add]
          simp only [SV.denL_eq, List.getElem?_map, Option.map_eq_some_iff] at hv
          obtain ⟨s, hs, rfl⟩ := hv
          have hp := hle.2
          simp only [allPlain, List.all_eq_true] at hp
          refine (E k).cell hch ?_ (hp s (List.mem_of_getElem? hs))
          rw [List.getElem?_take] at hs
          split at hs
          · simpa using hs
          · cases hs)
        simp only [execOp, Instr.loadAt, hc, SV.den, CE.ptr, Instr.sureAddr, Sem.run_bind, Sem.run_pure, Result.andThen_ok, this]
      · cases hq
    · rename_i cs hk ha
      split at hq
      · rename_i hp
        cases hq
        refine ⟨hp, ?_⟩
        have hch := hW.chunks k cs (chGet_mem hk)
        have hs : cs[off]? = some (SV.get cs off) := by
          simp only [SV.get, List.getD_eq_getElem?_getD] at hp ⊢
          cases hl : cs[off]? with
          | none => simp [hl, SV.plain] at hp
          | some s => simp
        have := run_loadVar_one (P := P) (w := w) (ad := (E k).at off) ha ((E k).cell hch hs hp)
        simp only [execOp, Instr.loadAt, hc, SV.den, CE.ptr, Instr.sureAddr, Sem.run_bind, Sem.run_pure, Result.andThen_ok, this]
      · cases hq
    · cases hq
  · cases hq

/-! ### Stores -/
def setsW (w : World) (ad : Addr) : List Value → Nat → World
  | [], _ => w
  | v :: l, i => setsW (w.setCell (ad.add i) v) ad l (i + 1)
theorem cell_setCell_isSome (ad b : Addr) (v : Value) (hb : (w.cell? b).isSome = true) : ((w.setCell ad v).cell? b).isSome = true := by
  by_cases e : ad = b
  · subst e
    cases hc : w.cell? ad with
    | none => simp [hc] at hb
    | some u => rw [World.cell?_setCell_same _ _ _ hc]; rfl
  · rw [World.cell?_setCell_other _ _ _ _ e]; exact hb
theorem run_sets (ad : Addr) : ∀ (l : List Value) (i : Nat) (w : World), (∀ j, j < l.length → (w.cell? (ad.add (i + j))).isSome = true ∧ w.frozen? (ad.add (i + j)) = false) → (∀ v ∈ l, v.oneCell' = true) →
    (storeCells ad l i).run P w = .ok () (setsW w ad l i)
  | [], i, w, _, _ => by simp [storeCells, setsW]
  | v :: l, i, w, hw, h1 => by
    have h0 := hw 0 (by simp)
    simp only [Nat.add_zero] at h0
    obtain ⟨u, hu⟩ := Option.isSome_iff_exists.1 h0.1
    have hst : (store (ad.add i) v).run P w = .ok () (w.setCell (ad.add i) v) := by
      rw [run_store P w _ v _ (h1 v (by simp)), hu]; simp [h0.2]
    simp only [storeCells, Sem.run_bind, hst, Result.andThen_ok, setsW]
    refine run_sets ad l (i + 1) _ (fun j hj => ?_) (fun v hv => h1 v (by simp [hv]))
    have := hw (j + 1) (by simp; omega)
    rw [show i + (j + 1) = i + 1 + j by omega] at this
    exact ⟨cell_setCell_isSome _ _ _ this.1, by simp [this.2]⟩
theorem setsW_size (ad : Addr) : ∀ (l : List Value) (i : Nat) (w : World), (setsW w ad l i).heap.size = w.heap.size ∧ (setsW w ad l i).os = w.os ∧ (setsW w ad l i).tape = w.tape ∧ (setsW w ad l i).output = w.output
  | [], i, w => ⟨rfl, rfl, rfl, rfl⟩
  | v :: l, i, w => by
    obtain ⟨h1, h2, h3, h4⟩ := setsW_size ad l (i + 1) (w.setCell (ad.add i) v)
    exact ⟨by simp only [setsW]; rw [h1]; simp, by simp only [setsW]; rw [h2]; rfl, by simp only [setsW]; rw [h3]; rfl, by simp only [setsW]; rw [h4]; rfl⟩
theorem add_block (ad : Addr) (i : Nat) : (ad.add i).block = ad.block := by unfold Addr.add; split <;> rfl
theorem setCell_other (ad : Addr) (v : Value) {b : Nat} (hb : b ≠ ad.block) : (w.setCell ad v).heap[b]? = w.heap[b]? := by
  simp only [World.setCell, Array.getElem?_modify]
  rw [if_neg (fun e => hb e.symm)]
theorem setsW_other (ad : Addr) {b : Nat} (hb : b ≠ ad.block) : ∀ (l : List Value) (i : Nat) (w : World), (setsW w ad l i).heap[b]? = w.heap[b]?
  | [], i, w => rfl
  | v :: l, i, w => by
    simp only [setsW]
    rw [setsW_other ad hb l (i + 1) _, setCell_other _ _ (by rw [add_block]; exact hb)]
theorem setsW_block (b o : Nat) (e : TypeId) (fr : Nat × Nat) : ∀ (l : List Value) (i : Nat) (w : World) (arr : Array Value), w.heap[b]? = some (.cells arr e fr) →
    (setsW w ⟨b, o, none⟩ l i).heap[b]? = some (.cells ((l.zipIdx i).foldl (fun cs (x : Value × Nat) => cs.setIfInBounds (o + x.2) x.1) arr) e fr)
  | [], i, w, arr, hb => hb
  | v :: l, i, w, arr, hb => by
    simp only [setsW, List.zipIdx_cons, List.foldl_cons]
    refine setsW_block b o e fr l (i + 1) _ _ ?_
    have hadd : (⟨b, o, none⟩ : Addr).add i = ⟨b, o + i, none⟩ := by unfold Addr.add; split <;> simp_all
    rw [hadd]
    simp [World.setCell, Array.getElem?_modify, hb]
end
end Go.Proofs.Ytibdneedfopcoaa
