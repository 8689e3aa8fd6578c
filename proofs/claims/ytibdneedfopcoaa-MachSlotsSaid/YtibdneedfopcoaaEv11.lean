/-
  Chunks: stored into, made anew; what a state says then. Conditions: none (plain lemmas).
-/
import Derived.Test.YtibdneedfopcoaaEv10
set_option linter.unusedVariables false
set_option linter.unusedSimpArgs false
namespace Go.Proofs.Ytibdneedfopcoaa
open Go

section
variable {P : Program} {B : Beg} {G : List Value} {E : Nat → CE} {h : H} {st : St} {a : Act} {w : World}

theorem SatW.keys (hW : SatW B G E h st.ch w) : st.ch.Pairwise fun x y => x.1 ≠ y.1 :=
  hW.dist.imp fun hxy e => hxy (by rw [e])
theorem chSet_mem' {k : Nat} {cs : List SV} : ∀ {l : List (Nat × List SV)} {x : Nat × List SV}, l.Pairwise (fun x y => x.1 ≠ y.1) → x ∈ chSet k cs l → (x ∈ l ∧ x.1 ≠ k) ∨ (x = (k, cs))
  | [], _, _, h => by simp [chSet] at h
  | (j, d) :: l, x, hp, h => by
    obtain ⟨hp1, hp2⟩ := List.pairwise_cons.1 hp
    unfold chSet at h
    split at h
    · rename_i hj
      rw [Nat.beq_eq] at hj
      subst hj
      rcases List.mem_cons.1 h with rfl | h
      · exact .inr rfl
      · exact .inl ⟨List.mem_cons_of_mem _ h, fun e => hp1 x h e.symm⟩
    · rename_i hj
      rcases List.mem_cons.1 h with rfl | h
      · exact .inl ⟨List.mem_cons_self .., fun e => hj (by rw [Nat.beq_eq]; exact e)⟩
      · rcases chSet_mem' hp2 h with ⟨h1, h2⟩ | h
        · exact .inl ⟨List.mem_cons_of_mem _ h1, h2⟩
        · exact .inr h
theorem pair_keys {l m : List (Nat × List SV)} (hk : l.map (·.1) = m.map (·.1)) (hp : m.Pairwise fun x y => (E x.1).blk ≠ (E y.1).blk) : l.Pairwise fun x y => (E x.1).blk ≠ (E y.1).blk := by
  have h1 : List.Pairwise (fun x y : Nat => (E x).blk ≠ (E y).blk) (m.map (·.1)) := List.Pairwise.map (R := fun x y : Nat × List SV => (E x.1).blk ≠ (E y.1).blk) (fun x : Nat × List SV => x.1) (fun _ _ h => h) hp
  rw [← hk] at h1
  exact (List.pairwise_map (R := fun x y : Nat => (E x).blk ≠ (E y).blk)).1 h1
theorem dist_ne (hW : SatW B G E h st.ch w) {x y : Nat × List SV} (hx : x ∈ st.ch) (hy : y ∈ st.ch) (hne : x.1 ≠ y.1) : (E x.1).blk ≠ (E y.1).blk := by
  have hs : ∀ {l : List (Nat × List SV)}, l.Pairwise (fun x y => (E x.1).blk ≠ (E y.1).blk) → x ∈ l → y ∈ l → (E x.1).blk ≠ (E y.1).blk := by
    intro l
    induction l with
    | nil => intro _ h; cases h
    | cons z l ih =>
      intro hp h1 h2
      obtain ⟨hp1, hp2⟩ := List.pairwise_cons.1 hp
      rcases List.mem_cons.1 h1 with e1 | h1
      · rcases List.mem_cons.1 h2 with e2 | h2
        · exact absurd (by rw [e1, e2]) hne
        · rw [e1]; exact hp1 _ h2
      · rcases List.mem_cons.1 h2 with e2 | h2
        · rw [e2]; exact fun e => hp1 _ h1 e.symm
        · exact ih hp2 h1 h2
  exact hs hW.dist hx hy
theorem RelL.splice {off : Nat} : ∀ {l : List Value} {cs : List SV} {m : List Value} {ms : List SV}, RelL G E l cs → RelL G E m ms → off + ms.length ≤ cs.length → RelL G E (splice l off m) (splice cs off ms) := by
  intro l cs m ms h1 h2 hle
  have hl := h1.length
  have hm := h2.length
  have app : ∀ {l : List Value} {cs : List SV} {m : List Value} {ms : List SV}, RelL G E l cs → RelL G E m ms → RelL G E (l ++ m) (cs ++ ms) := by
    intro l
    induction l with
    | nil => intro cs m ms h1 h2; cases cs with | nil => exact h2 | cons _ _ => exact h1.elim
    | cons v l ih => intro cs m ms h1 h2; cases cs with | nil => exact h1.elim | cons c cs => exact ⟨h1.1, ih h1.2 h2⟩
  have tk : ∀ (n : Nat) {l : List Value} {cs : List SV}, RelL G E l cs → RelL G E (l.take n) (cs.take n) ∧ RelL G E (l.drop n) (cs.drop n) := by
    intro n
    induction n with
    | zero => intro l cs h; exact ⟨by simp only [List.take_zero]; trivial, by simpa using h⟩
    | succ n ih =>
      intro l cs h
      cases l with
      | nil => cases cs with | nil => exact ⟨by simp only [List.take_nil]; trivial, by simp only [List.drop_nil]; trivial⟩ | cons _ _ => exact h.elim
      | cons v l => cases cs with | nil => exact h.elim | cons c cs => exact ⟨⟨h.1, (ih h.2).1⟩, by simpa using (ih h.2).2⟩
  unfold Go.Proofs.Ytibdneedfopcoaa.splice
  rw [hm]
  exact app (app (tk off h1).1 h2) (tk _ h1).2
theorem splice_mid {α : Type} (pre l post m : List α) (off : Nat) (h : off + m.length ≤ l.length) : splice (pre ++ l ++ post) (pre.length + off) m = pre ++ splice l off m ++ post := by
  unfold splice
  have e1 : (pre ++ l ++ post).take (pre.length + off) = pre ++ l.take off := by
    rw [List.append_assoc, List.take_length_add_append, List.take_append_of_le_length (by omega)]
  have e2 : (pre ++ l ++ post).drop (pre.length + off + m.length) = l.drop (off + m.length) ++ post := by
    rw [List.append_assoc, Nat.add_assoc, List.drop_length_add_append, List.drop_append_of_le_length h]
  rw [e1, e2]
  simp [List.append_assoc]
theorem splice_length {α : Type} (l m : List α) (off : Nat) (h : off + m.length ≤ l.length) : (splice l off m).length = l.length := by
  unfold splice; simp; omega
theorem RelL_den : ∀ {ms : List SV}, allPlain ms = true → RelL G E (SV.denL G E ms) ms
  | [], _ => trivial
  | s :: ms, hp => by
    simp only [allPlain, List.all_cons, Bool.and_eq_true] at hp
    exact ⟨Rel.of (fun _ => rfl) (by intro g t e; rw [e] at hp; simp [SV.plain] at hp), RelL_den (by simp only [allPlain]; exact hp.2)⟩

/-- A store into a chunk. -/
theorem SatW.store (hW : SatW B G E h st.ch w) {k : Nat} {cs ms : List SV} {off : Nat} (hk : chGet k st.ch = some cs) (hle : off + ms.length ≤ cs.length) (hp : allPlain ms = true) (h1 : ∀ v ∈ SV.denL G E ms, v.oneCell' = true) :
    (storeCells ((E k).at off) (SV.denL G E ms)).run P w = .ok () (setsW w ((E k).at off) (SV.denL G E ms) 0) ∧
    SatW B G E h (chSet k (splice cs off ms) st.ch) (setsW w ((E k).at off) (SV.denL G E ms) 0) := by
  have hmem := chGet_mem hk
  obtain ⟨hfree, l, hb, hr⟩ := hW.chunks k cs hmem
  have hlen := hr.length
  have hml : (SV.denL G E ms).length = ms.length := by simp [SV.denL_eq]
  have hblk : ((E k).at off).block = (E k).blk := rfl
  constructor
  · refine run_sets _ _ 0 w (fun j hj => ?_) h1
    rw [hml] at hj
    rw [Nat.zero_add, at_add]
    constructor
    · simp only [World.cell?, CE.at, hb, Option.isSome_none, Bool.false_eq_true, if_false]
      rw [List.getElem?_toArray, List.getElem?_append_left (by simp; omega), List.getElem?_append_right (by omega)]
      rw [show (E k).pre.length + (off + j) - (E k).pre.length = off + j by omega, List.getElem?_eq_getElem (by omega)]
      rfl
    · simp only [World.frozen?, CE.at, hb]
      have := hfree (off + j) (by omega)
      rw [Bool.eq_false_iff]
      intro hc
      simp only [Bool.and_eq_true] at hc
      exact this ⟨of_decide_eq_true hc.1, of_decide_eq_true hc.2⟩
  · have hsz := setsW_size ((E k).at off) (SV.denL G E ms) 0 w
    have hoth : ∀ b, b ≠ (E k).blk → (setsW w ((E k).at off) (SV.denL G E ms) 0).heap[b]? = w.heap[b]? := fun b hb => setsW_other _ hb _ 0 w
    have hnew : (setsW w ((E k).at off) (SV.denL G E ms) 0).heap[(E k).blk]? = some (.cells ((E k).pre ++ splice l off (SV.denL G E ms) ++ (E k).post).toArray (E k).elem (E k).fr) := by
      have := setsW_block (E k).blk ((E k).pre.length + off) (E k).elem (E k).fr (SV.denL G E ms) 0 w _ hb
      rw [show (E k).at off = ⟨(E k).blk, (E k).pre.length + off, none⟩ from rfl, this]
      congr 2
      apply Array.ext'
      rw [foldl_splice _ _ 0 _ (by simp [hml]; omega)]
      rw [Nat.add_zero, ← splice_mid _ _ _ _ _ (by rw [hml]; omega)]
    refine ⟨fun j ds hm => ?_, fun j ds hm => ?_, pair_keys chSet_keys hW.dist, fun j ds hm => ?_, hW.par, fun b o ho => ?_, ?_, hW.pre⟩
    · rcases chSet_mem' hW.keys hm with ⟨hm, hne⟩ | he
      · obtain ⟨f, l', hb', hr'⟩ := hW.chunks j ds hm
        exact ⟨f, l', by rw [hoth _ (dist_ne hW hm hmem hne)]; exact hb', hr'⟩
      · cases he
        refine ⟨fun i hi => hfree i (by rw [splice_length _ _ _ hle] at hi; exact hi), _, hnew, hr.splice (RelL_den hp) hle⟩
    · rcases chSet_mem' hW.keys hm with ⟨hm, hne⟩ | he
      · exact hW.hid j ds hm
      · cases he; exact hW.hid k cs hmem
    · rcases chSet_mem' hW.keys hm with ⟨hm, hne⟩ | he
      · exact hW.own j ds hm
      · cases he; exact hW.own k cs hmem
    · rw [hoth b (fun e => by rw [e, hW.hid k cs hmem] at ho; cases ho)]
      exact hW.hsub b o ho
    · refine ⟨by rw [hsz.1]; exact hW.frm.size, hsz.2.1.trans hW.frm.os, hsz.2.2.1.trans hW.frm.tape, hsz.2.2.2.trans hW.frm.out, fun b h1 h2 h3 => ?_⟩
      obtain ⟨k1, k2⟩ := hW.frm.keep b h1 h2 h3
      refine ⟨?_, k2⟩
      rw [hoth b (fun e => ?_)]
      · exact k1
      · rcases hW.own k cs hmem with ho | ho
        · exact h3 (e ▸ ho)
        · omega

/-- A chunk made anew. -/
def envPut (E : Nat → CE) (d : Nat) (c : CE) : Nat → CE := fun j => if j.beq d then c else E j
theorem envPut_ne {E : Nat → CE} {d j : Nat} {c : CE} (h : j ≠ d) : envPut E d c j = E j := by
  unfold envPut
  rw [if_neg (by rw [Nat.beq_eq]; exact h)]
theorem envPut_eq {E : Nat → CE} {d : Nat} {c : CE} : envPut E d c d = c := by
  unfold envPut
  rw [if_pos (by rw [Nat.beq_eq])]
def neq (d : Nat) (j : Nat) : Bool := !(j.beq d)
theorem neq_env {E : Nat → CE} {d : Nat} {c : CE} : ∀ l, neq d l = true → E l = envPut E d c l := by
  intro l hl
  rw [envPut_ne]
  intro e
  subst e
  simp [neq] at hl
theorem heap_lt {w : World} {b : Nat} {o : Obj} (h : w.heap[b]? = some o) : b < w.heap.size := (Array.getElem?_eq_some_iff.1 h).1
theorem h_size (hs : h.sub w) {b : Nat} (hb : w.heap.size ≤ b) : h b = none := by
  cases ho : h b with
  | none => rfl
  | some o => have := heap_lt (hs b o ho); omega
theorem push_old {w : World} {o : Obj} {b : Nat} (hb : b < w.heap.size) : (w.alloc o).heap[b]? = w.heap[b]? := by
  unfold World.alloc
  simp only [Array.getElem?_push]
  rw [if_neg (by omega)]
theorem SatW.new (hW : SatW B G E h st.ch w) {d : Nat} {elem : TypeId} {cs : List SV} {arr : Array Value} (hd : d < 1000000) (hr : RelL G E arr.toList cs)
    (hc : SV.refsL (neq d) cs = true) (hn : refsCh (neq d) (chDel d st.ch) = true) :
    SatW B G (envPut E d ⟨w.heap.size, [], [], elem, (0, 0)⟩) h ((d, cs) :: chDel d st.ch) (w.alloc (.cells arr elem)) := by
  have hsz : (w.alloc (.cells arr elem)).heap.size = w.heap.size + 1 := by simp
  have hnew : (w.alloc (.cells arr elem)).heap[w.heap.size]? = some (.cells arr elem (0, 0)) := by unfold World.alloc; simp only [Array.getElem?_push, if_true]
  have hlt : ∀ k cs, (k, cs) ∈ st.ch → (E k).blk < w.heap.size := fun k cs hm => by
    obtain ⟨_, l, hb, _⟩ := hW.chunks k cs hm
    exact heap_lt hb
  refine ⟨fun k ds hm => ?_, fun k ds hm => ?_, ?_, fun k ds hm => ?_, fun i c hi => ?_, fun b o ho => ?_, ?_, hW.pre⟩
  · rcases List.mem_cons.1 hm with he | hm
    · cases he
      rw [envPut_eq]
      refine ⟨fun i hi => by simp, arr.toList, by simpa using hnew, hr.env neq_env hc⟩
    · obtain ⟨hm', hne⟩ := chDel_mem hm
      rw [envPut_ne hne]
      obtain ⟨f, l, hb, hr'⟩ := hW.chunks k ds hm'
      exact ⟨f, l, by rw [push_old (hlt k ds hm')]; exact hb, hr'.env neq_env (refsCh_mem hn hm)⟩
  · rcases List.mem_cons.1 hm with he | hm
    · cases he; rw [envPut_eq]; exact h_size hW.hsub (Nat.le_refl _)
    · obtain ⟨hm', hne⟩ := chDel_mem hm
      rw [envPut_ne hne]; exact hW.hid k ds hm'
  · refine List.pairwise_cons.2 ⟨fun x hx => ?_, ?_⟩
    · obtain ⟨hm', hne⟩ := chDel_mem hx
      have := hlt x.1 x.2 hm'
      rw [envPut_eq, envPut_ne hne]
      simp only; omega
    · have := hW.dist.sublist (chDel_sub (k := d))
      refine List.Pairwise.imp_of_mem (fun {x y} hx hy hxy => ?_) this
      rw [envPut_ne (chDel_mem hx).2, envPut_ne (chDel_mem hy).2]; exact hxy
  · rcases List.mem_cons.1 hm with he | hm
    · cases he; rw [envPut_eq]; exact .inr hW.frm.size
    · obtain ⟨hm', hne⟩ := chDel_mem hm
      rw [envPut_ne hne]; exact hW.own k ds hm'
  · rw [envPut_ne (by unfold pkey; omega)]; exact hW.par i c hi
  · rw [push_old (heap_lt (hW.hsub b o ho))]; exact hW.hsub b o ho
  · refine ⟨by rw [hsz]; have := hW.frm.size; omega, hW.frm.os, hW.frm.tape, hW.frm.out, fun b h1 h2 h3 => ?_⟩
    obtain ⟨k1, k2⟩ := hW.frm.keep b h1 h2 h3
    refine ⟨?_, k2⟩
    rw [push_old (by have := hW.frm.size; omega)]; exact k1
theorem SatA.env {F : Nat → CE} {f : Nat → Bool} (hf : ∀ l, f l = true → E l = F l) (hA : SatA G E st a) (hs : SV.refsL f st.t = true) : SatA G F st a :=
  ⟨hA.size, fun i s hi => (hA.tmps i s hi).env hf (refsL_get hs hi), hA.nodef, hA.fits, hA.kn⟩
end
end Go.Proofs.Ytibdneedfopcoaa
