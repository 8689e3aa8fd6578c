/-
  Chapter 12's example; that functions that are made have small numbers. Conditions: none (the table of bits is at hand).
-/
import Derived.Test.YtbbicdfipheaeaaDoorR5W
set_option linter.unusedVariables false
set_option linter.unusedSimpArgs false
namespace Go.Proofs.YtbbicdfipheaeaaDoor
open Go

theorem ofM_named {x : Ins} {n : Int} (h : ofM x n = 0) : x.args.length ≤ 3 ∧ ∀ y ∈ namedM x, 0 ≤ y ∧ y < n := by
  unfold ofM at h
  split at h
  · cases h
  · split at h
    · cases h
    · rename_i h2
      split at h
      · rename_i h3
        refine ⟨by omega, fun y hy => ?_⟩
        have := List.all_eq_true.1 h3 y hy
        simpa [inR] using this
      · cases h
theorem reg_of {x : Ins} {n : Int} (h : ofM x n = 0) (hn : n ≤ 4096) : RegI x := by
  obtain ⟨h1, h2⟩ := ofM_named h
  refine ⟨fun u hu => ?_, fun hg => ?_, by omega⟩
  · have := h2 u (by unfold namedM; exact List.mem_append_left _ hu)
    omega
  · have := h2 x.d (by unfold namedM; rw [hg]; simp)
    omega
theorem made_reg {p0 p1 p2 : Int} {l : List Int} (h0 : 0 ≤ p0) (h1 : 0 ≤ p1) (h2 : 0 ≤ p2) (hl : InB l) : RegL (madeB p0 p1 p2 l) ∧ ∀ b ∈ madeB p0 p1 p2 l, b.ins.length ≤ 100 := by
  have hN := madeN_range h2
  have hV := madeV_range h0 h1
  have key : ∀ b ∈ madeB p0 p1 p2 l, RegB b ∧ b.ins.length ≤ 100 := fun b hb => by
    unfold madeB at hb
    obtain ⟨k1, k2, k3⟩ := blksM_ok (v := madeV p0 p1) (w := madeV p0 p1) (n := madeN p2) (m := madeN p2) (l := l) (by omega) (Int.le_refl _) (by omega) (Int.le_refl _) hl _ b hb
    refine ⟨⟨fun x hx => reg_of (k2 x hx) (by omega), fun hla => ?_, by omega⟩, by omega⟩
    unfold endM at k3
    unfold lastM at hla
    grind (splits := 60)
  exact ⟨fun b hb => (key b hb).1, fun b hb => (key b hb).2⟩

/-! ### The example -/
def aI : Ins := ⟨1, 0, 0, 0, 0, 0, []⟩
def aE0 : Fin4 := ⟨1, 0, 1, 0⟩
def aE1 : Fin4 := ⟨3, 0, 0, 0⟩
def aB2 : List Blk := [⟨[aI], aE0⟩, ⟨[], aE1⟩]
theorem aB2_ok : OkB aB2 := fun b hb => by
  simp only [aB2, List.mem_cons, List.not_mem_nil, or_false] at hb
  rcases hb with rfl | rfl
  · intro n hn
    simp [nextL, aE0] at hn
    subst hn; simp [aB2]
  · intro n hn
    simp [nextL, aE1] at hn
theorem aB2_reg : RegL aB2 := fun b hb => by
  simp only [aB2, List.mem_cons, List.not_mem_nil, or_false] at hb
  rcases hb with rfl | rfl
  · refine ⟨fun x hx => ?_, fun h => by simp [lastM, aE0] at h, by simp⟩
    simp only [List.mem_singleton] at hx
    subst hx
    exact ⟨fun u hu => by simp [usesM, aI] at hu, fun _ => by simp [aI], by simp [aI]⟩
  · exact ⟨fun x hx => (by cases hx), fun _ => (by simp [aE1]), by simp⟩
theorem aB2_sol {L : List SP} (K : Solved (flV aB2) L) : L = [fun y => decide (y = 0), fun _ => false] := by
  have hl : L.length = 2 := K.len
  match L, hl with
  | [a, b], _ =>
    have e1 : b = fun _ => false := by
      funext y
      cases h : b y with
      | false => rfl
      | true =>
        obtain ⟨c, z, h1, _⟩ := (eqV aB2_ok K (b := 1) (x := b) rfl y).1 h
        have : nextN aB2 1 = [] := by decide
        rw [this] at h1; cases h1
    have hp : ∀ y, blkP aB2 1 b y = decide (y = 0) := fun y => by
      rw [blkP_at (x := ⟨[], aE1⟩) rfl, e1]
      show (false || (lastM aE1 && decide (aE1.a = (y : Int)))) = _
      rw [Bool.false_or, show lastM aE1 = true by decide, Bool.true_and]
      exact decide_eq_decide.2 (by simp only [aE1]; omega)
    have e0 : a = fun y => decide (y = 0) := by
      funext y
      have := eqV aB2_ok K (b := 0) (x := a) rfl y
      have hn : nextN aB2 0 = [1] := by decide
      rw [hn] at this
      rw [Bool.eq_iff_iff, this, ← hp y]
      constructor
      · rintro ⟨c, z, h1, h2, h3⟩
        rw [List.mem_singleton] at h1; subst h1
        cases h2; exact h3
      · intro h; exact ⟨1, b, by simp, rfl, h⟩
    rw [e0, e1]
theorem aB2_in : inP aB2 [fun y => decide (y = 0), fun _ => false] = [fun _ => false, fun y => decide (y = 0)] := by
  show [blkP aB2 0 _, blkP aB2 1 _] = _
  have a0 : blkP aB2 0 (fun y => decide (y = 0)) = fun _ => false := by
    rw [blkP_at (x := ⟨[aI], aE0⟩) rfl]
    funext y
    show (((decide (y = 0) || (lastM aE0 && _)) && !(givesM aI.kind && decide (aI.d = (y : Int)))) || decide ((y : Int) ∈ usesM aI)) = false
    rw [show lastM aE0 = false by decide, show givesM aI.kind = true by decide, show usesM aI = [] by decide]
    by_cases h : y = 0
    · subst h; simp [aI]
    · simp [h]
  have a1 : blkP aB2 1 (fun _ => false) = fun y => decide (y = 0) := by
    rw [blkP_at (x := ⟨[], aE1⟩) rfl]
    funext y
    show (false || (lastM aE1 && decide (aE1.a = (y : Int)))) = _
    rw [Bool.false_or, show lastM aE1 = true by decide, Bool.true_and]
    exact decide_eq_decide.2 (by simp only [aE1]; omega)
  simp only [List.getD_cons_zero, List.getD_cons_succ]
  rw [a0, a1]
theorem cnt_none : cntP (fun _ => false) = 0 := by unfold cntP; simp
theorem s29 {h : H} (ht : Tab h) : CallsA Tryd.prog 29 (fun _ => []) [] h (Ret fun r h' => h.le h' ∧ r = .bool true) := by
  refine c29 (G := []) trivial ?_
  intro b0 hb0 b1 hb1
  have hl0 := H.le_put (o := .cells (insC aI (.slice none 0 0)).toArray 72 (0, 0)) hb0
  have hl1 := H.le_put (o := .cells (Value.slice (some ⟨b0, 0, none⟩) 1 1 :: endC aE0 ++ (Value.slice none 0 0 :: endC aE1)).toArray 66 (0, 0)) hb1
  have hI : SlAt 7 InsC (H.put h b0 (.cells (insC aI (.slice none 0 0)).toArray 72 (0, 0))) (.slice (some ⟨b0, 0, none⟩) 1 1) [aI] := by
    refine ⟨⟨_, _, _, rfl, (fun e => by cases e), Nat.le_refl _⟩, rfl, fun i x hi => ?_⟩
    obtain ⟨rfl, rfl⟩ := get_one hi
    exact ⟨_, ⟨_, rfl, SlAt.nil⟩, Reads.put (o := 0) fun i v hi => by simpa using hi⟩
  have hB : BlksAt (H.put (H.put h b0 (.cells (insC aI (.slice none 0 0)).toArray 72 (0, 0))) b1 (.cells (Value.slice (some ⟨b0, 0, none⟩) 1 1 :: endC aE0 ++ (Value.slice none 0 0 :: endC aE1)).toArray 66 (0, 0))) (.slice (some ⟨b1, 0, none⟩) 2 2) aB2 := by
    refine ⟨⟨_, _, _, rfl, (fun e => by cases e), Nat.le_refl _⟩, rfl, fun i x hi => ?_⟩
    match i, hi with
    | 0, hi =>
      cases hi
      refine ⟨Value.slice (some ⟨b0, 0, none⟩) 1 1 :: endC aE0, ⟨_, rfl, SlAt.le insC_mono hl1 hI⟩, Reads.put (o := 0) fun i v hi => ?_⟩
      rw [Nat.zero_add, List.getElem?_append_left (List.getElem?_eq_some_iff.1 hi).1]; exact hi
    | 1, hi =>
      cases hi
      refine ⟨Value.slice none 0 0 :: endC aE1, ⟨_, rfl, SlAt.nil⟩, Reads.put (o := 5) fun i v hi => ?_⟩
      rw [List.getElem?_append_right (by simp [endC])]
      simpa [endC] using hi
  refine h_call0 (s31 ((ht.le hl0).le hl1) hB aB2_ok aB2_reg (by decide)) ?_
  rintro _ g ⟨hl, vi, vo, L, rfl, hsol, Ko, Ki⟩
  have hL := aB2_sol hsol
  rw [hL, aB2_in] at Ki
  rw [hL] at Ko
  have hle := hl0.trans (hl1.trans hl)
  have hil : vlen vi = 2 := Ki.len
  have hol : vlen vo = 2 := Ko.len
  refine ⟨[vi, vo], ⟨Ki.fit, Ko.fit, trivial⟩, rfl, ?_⟩
  simp only [List.cons_append, List.nil_append]
  obtain ⟨c4, t4, r4, q4⟩ := Ki.count (i := 0) rfl
  obtain ⟨c6, t6, r6, q6⟩ := Ko.has (i := 0) (x := 0) rfl (by omega)
  obtain ⟨c8, t8, r8, q8⟩ := Ki.has (i := 1) (x := 0) rfl (by omega)
  obtain ⟨c10, t10, r10, q10⟩ := Ko.count (i := 1) rfl
  have lt : ∀ {D : List Value} {q : Nat} {v : Value} {k : Nat}, gv D q = v → vlen v = 2 → k < 2 → needs D [(.tt true), (.cmp .lss (.lit (k : Int)) (.len q))] := fun {D q v k} e1 e2 e3 => by
    simp only [needs, X.den, e1, e2, vb_bool, vi_int, and_true]
    exact ⟨trivial, ltN e3⟩
  refine ⟨fun _ => lt (k := 0) rfl hil (by omega), h_load [c4] ⟨t4, trivial⟩ (fun _ => r4) (iteT ?_ ?_)⟩
  · show cmpOp .eql ((vlen vi : Nat) : Int) 2 = true
    rw [hil]; rfl
  simp only [List.cons_append, List.nil_append]
  refine h_call0 (q4 (H.le_refl _)) ?_
  rintro _ _ ⟨rfl, rfl⟩
  rw [cnt_none]
  refine ⟨[natV 0], ⟨⟨_, rfl⟩, trivial⟩, rfl, fun _ => lt (k := 0) rfl hol (by omega), h_load [c6] ⟨t6, trivial⟩ (fun _ => r6) (iteT rfl ?_)⟩
  simp only [List.cons_append, List.nil_append]
  refine h_call0 (q6 (H.le_refl _)) ?_
  rintro _ _ ⟨rfl, rfl⟩
  refine ⟨[.bool true], ⟨⟨_, rfl⟩, trivial⟩, rfl, fun _ => lt (k := 1) rfl hil (by omega), h_load [c8] ⟨t8, trivial⟩ (fun _ => r8) (iteT rfl ?_)⟩
  simp only [List.cons_append, List.nil_append]
  refine h_call0 (q8 (H.le_refl _)) ?_
  rintro _ _ ⟨rfl, rfl⟩
  refine ⟨[.bool true], ⟨⟨_, rfl⟩, trivial⟩, rfl, fun _ => lt (k := 1) rfl hol (by omega), h_load [c10] ⟨t10, trivial⟩ (fun _ => r10) (iteT rfl ?_)⟩
  simp only [List.cons_append, List.nil_append]
  refine h_call0 (q10 (H.le_refl _)) ?_
  rintro _ _ ⟨rfl, rfl⟩
  rw [cnt_none]
  exact ⟨[natV 0], ⟨⟨_, rfl⟩, trivial⟩, rfl, rfl, hle, rfl⟩
end Go.Proofs.YtbbicdfipheaeaaDoor
