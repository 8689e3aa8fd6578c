/-
  What Made makes is right: the check finds nothing. Conditions: the numbers come from bytes.
-/
import Derived.Test.YtibdneedfopcoaaR1N
set_option linter.unusedVariables false
set_option linter.unusedSimpArgs false
namespace Go.Proofs.Ytibdneedfopcoaa
open Go

theorem insF_ok {f : Ins → Int} : ∀ {l : List Ins} {k : Nat}, (∀ x ∈ l, f x = 0) → insF f k l = none
  | [], _, _ => rfl
  | x :: l, k, h => by
    unfold insF
    rw [if_neg (by rw [h x (List.mem_cons_self ..)]; omega)]
    exact insF_ok fun y hy => h y (List.mem_cons_of_mem _ hy)
theorem blkF_ok {f : Ins → Int} {g : Fin4 → Int} {most : Nat} : ∀ {l : List Blk} {k : Nat}, (∀ b ∈ l, b.ins.length ≤ most ∧ (∀ x ∈ b.ins, f x = 0) ∧ g b.en = 0) → blkF f g most k l = (0, 0, 0)
  | [], _, _ => rfl
  | x :: l, k, h => by
    obtain ⟨h1, h2, h3⟩ := h x (List.mem_cons_self ..)
    unfold blkF
    rw [if_neg (by omega), insF_ok h2]
    simp only
    rw [if_neg (by omega)]
    exact blkF_ok fun y hy => h y (List.mem_cons_of_mem _ hy)
theorem argsM_all {v : Int} {l : List Int} (hv : 0 < v) (hl : InB l) : ∀ k, ∀ x ∈ (argsM v l k).1, 0 ≤ x ∧ x < v
  | 0, x, h => by cases h
  | k + 1, x, h => by
    simp only [argsM] at h
    rcases List.mem_append.1 h with h | h
    · exact argsM_all hv hl k x h
    · rw [List.mem_singleton] at h
      rw [h]; exact nextM_range hv (argsM_inB hl k)
theorem inR_of {n v : Int} (h : 0 ≤ v ∧ v < n) : inR n v = true := by unfold inR; simpa using h
/-- An instruction that is made is right, over so many vregs or more. -/
theorem insM_ok {v w : Int} {l : List Int} (hv : 0 < v) (hw : v ≤ w) (hl : InB l) : ofM (insM v l).1 w = 0 := by
  have a := nextM_range (n := 9) (by omega) hl
  have la := nextM_inB (n := 9) hl
  have key : ∀ x : Ins, (1 ≤ x.kind ∧ x.kind ≤ 6) → (x.kind = 3 → 1 ≤ x.op ∧ x.op ≤ 7) → plainM x → x.args.length ≤ 3 → (∀ y ∈ namedM x, 0 ≤ y ∧ y < v) → ofM x w = 0 := by
    intro x h1 h2 h3 h4 h5
    unfold ofM
    rw [if_neg (by grind), if_neg (by omega), if_pos]
    rw [List.all_eq_true]
    intro y hy
    have := h5 y hy
    exact inR_of ⟨this.1, by omega⟩
  unfold insM
  obtain ⟨b, hb⟩ : ∃ b, b = nextM 9 l := ⟨_, rfl⟩
  rw [← hb] at a la ⊢
  simp only
  have r := fun {n : Int} {l : List Int} => @nextM_range n l
  split
  · have r1 := nextM_range hv la
    refine key _ (by simp) (by simp) (by simp [plainM]) (by simp) ?_
    intro y hy
    simp [namedM, usesM, givesM] at hy
    subst hy; exact r1
  · split
    · have r1 := nextM_range hv la
      have r2 := nextM_range hv (nextM_inB (n := v) la)
      refine key _ (by simp) (by simp) (by simp [plainM]) (by simp) ?_
      intro y hy
      simp [namedM, usesM, givesM] at hy
      rcases hy with rfl | rfl <;> assumption
    · split
      · have r1 := nextM_range hv la
        have r2 := nextM_range hv (nextM_inB (n := v) la)
        refine key _ (by simp) (by simp) (by simp [plainM]) (by simp) ?_
        intro y hy
        simp [namedM, usesM, givesM] at hy
        rcases hy with rfl | rfl <;> assumption
      · split
        · have r1 := nextM_range hv la
          have l1 := nextM_inB (n := v) la
          have l2 := nextM_inB (n := 5) l1
          have r3 := nextM_range (n := 4) (by omega) l2
          have l3 := nextM_inB (n := 4) l2
          refine key _ (by simp) (by simp) (by simp [plainM]) (by simp only [argsM_len]; omega) ?_
          intro y hy
          simp [namedM, usesM, givesM] at hy
          rcases hy with hy | rfl
          · exact argsM_all hv l3 _ y hy
          · exact r1
        · split
          · have r1 := nextM_range hv la
            have r2 := nextM_range hv (nextM_inB (n := v) la)
            refine key _ (by simp) (by simp) (by simp [plainM]) (by simp) ?_
            intro y hy
            simp [namedM, usesM, givesM] at hy
            rcases hy with rfl | rfl <;> assumption
          · have r1 := nextM_range (n := 7) (by omega) la
            have l1 := nextM_inB (n := 7) la
            have r2 := nextM_range hv l1
            have l2 := nextM_inB (n := v) l1
            have r3 := nextM_range hv l2
            have l3 := nextM_inB (n := v) l2
            have r4 := nextM_range hv l3
            refine key _ (by simp) (by intro _; simp only; omega) (by simp [plainM]) (by simp) ?_
            intro y hy
            simp [namedM, usesM, givesM] at hy
            rcases hy with rfl | rfl | rfl <;> assumption
theorem insM_inB {v : Int} {l : List Int} (hl : InB l) : InB (insM v l).2 := by
  have la := nextM_inB (n := 9) hl
  unfold insM
  simp only
  split
  · exact nextM_inB (nextM_inB la)
  · split
    · exact nextM_inB (nextM_inB la)
    · split
      · exact nextM_inB (nextM_inB la)
      · split
        · exact argsM_inB (nextM_inB (nextM_inB (nextM_inB la))) _
        · split
          · exact nextM_inB (nextM_inB la)
          · exact nextM_inB (nextM_inB (nextM_inB (nextM_inB la)))
theorem insLoopM_inB {v : Int} {l : List Int} (hl : InB l) : ∀ k, InB (insLoopM v l k).2
  | 0 => hl
  | k + 1 => insM_inB (insLoopM_inB hl k)
theorem insLoopM_ok {v w : Int} {l : List Int} (hv : 0 < v) (hw : v ≤ w) (hl : InB l) : ∀ k, ∀ x ∈ (insLoopM v l k).1, ofM x w = 0
  | 0, x, h => by cases h
  | k + 1, x, h => by
    simp only [insLoopM] at h
    rcases List.mem_append.1 h with h | h
    · exact insLoopM_ok hv hw hl k x h
    · rw [List.mem_singleton] at h
      rw [h]; exact insM_ok hv hw (insLoopM_inB hl k)
theorem endMk_inB {v n : Int} {l : List Int} (hl : InB l) : InB (endMk v n l).2 := by
  unfold endMk
  simp only
  split
  · exact nextM_inB (nextM_inB hl)
  · split
    · exact nextM_inB (nextM_inB (nextM_inB (nextM_inB hl)))
    · exact nextM_inB (nextM_inB hl)
theorem endMk_ok {v w n m : Int} {l : List Int} (hv : 0 < v) (hw : v ≤ w) (hn : 0 < n) (hm : n ≤ m) (hl : InB l) : endM (endMk v n l).1 w m 21 = 0 := by
  have la := nextM_inB (n := 4) hl
  unfold endMk
  simp only
  split
  · have r1 := nextM_range hn la
    simp only [endM]; grind
  · split
    · have r1 := nextM_range hv la
      have l1 := nextM_inB (n := v) la
      have r2 := nextM_range hn l1
      have r3 := nextM_range hn (nextM_inB (n := n) l1)
      simp only [endM]; grind
    · have r1 := nextM_range hv la
      simp only [endM]; grind
theorem blkM_inB {v n : Int} {l : List Int} (hl : InB l) : InB (blkM v n l).2 := endMk_inB (insLoopM_inB (nextM_inB hl) _)
theorem blksM_inB {v n : Int} {l : List Int} (hl : InB l) : ∀ k, InB (blksM v n l k).2
  | 0 => hl
  | k + 1 => blkM_inB (blksM_inB hl k)
theorem blkM_ok {v w n m : Int} {l : List Int} (hv : 0 < v) (hw : v ≤ w) (hn : 0 < n) (hm : n ≤ m) (hl : InB l) :
    (blkM v n l).1.ins.length ≤ 8 ∧ (∀ x ∈ (blkM v n l).1.ins, ofM x w = 0) ∧ endM (blkM v n l).1.en w m 21 = 0 := by
  have r := nextM_range (n := 9) (by omega) hl
  refine ⟨?_, insLoopM_ok hv hw (nextM_inB hl) _, endMk_ok hv hw hn hm (insLoopM_inB (nextM_inB hl) _)⟩
  simp only [blkM, insLoopM_len]; omega
theorem blksM_ok {v w n m : Int} {l : List Int} (hv : 0 < v) (hw : v ≤ w) (hn : 0 < n) (hm : n ≤ m) (hl : InB l) : ∀ k, ∀ b ∈ (blksM v n l k).1,
    b.ins.length ≤ 8 ∧ (∀ x ∈ b.ins, ofM x w = 0) ∧ endM b.en w m 21 = 0
  | 0, x, h => by cases h
  | k + 1, x, h => by
    simp only [blksM] at h
    rcases List.mem_append.1 h with h | h
    · exact blksM_ok hv hw hn hm hl k x h
    · rw [List.mem_singleton] at h
      rw [h]; exact blkM_ok hv hw hn hm (blksM_inB hl k)
/-- What is made passes the check, with vregs more, and with blocks of its own more. -/
theorem made_ok {p0 p1 p2 w : Int} {l : List Int} {bs : List Blk} (h0 : 0 ≤ p0) (h1 : 0 ≤ p1) (h2 : 0 ≤ p2) (hl : InB l) (hw : madeV p0 p1 ≤ w) (hw2 : w ≤ 32) (hb : ∀ b ∈ bs, b ∈ madeB p0 p1 p2 l) (hn : (madeN p2) ≤ bs.length) (hn2 : bs.length ≤ 16) :
    checkM (madeP p0) w bs = (0, 0, 0) := by
  have a := madeP_range h0
  have b := madeV_range h0 h1
  have c := madeN_range h2
  unfold checkM
  rw [if_neg (by omega)]
  refine blkF_ok fun x hx => ?_
  have := blksM_ok (w := w) (m := bs.length) (by omega) hw (by omega) hn hl _ x (hb x hx)
  exact ⟨by omega, this.2⟩
theorem madeB_len {p0 p1 p2 : Int} {l : List Int} (h2 : 0 ≤ p2) : ((madeB p0 p1 p2 l).length : Int) = madeN p2 := by
  have c := madeN_range h2
  unfold madeB; rw [blksM_len]; omega
end Go.Proofs.Ytibdneedfopcoaa
