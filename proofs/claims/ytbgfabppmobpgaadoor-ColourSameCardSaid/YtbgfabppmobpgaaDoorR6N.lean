/-
  What is left of a graph, as an object: what it is made of, changes of its parts. Conditions: none (definitions and plain lemmas), and as each contract says.
-/
import Derived.Test.YtbgfabppmobpgaaDoorR6K
import Derived.Test.YtbgfabppmobpgaaDoorR6D
import Derived.Test.YtbgfabppmobpgaaDoorR6M
import Derived.Test.YtbgfabppmobpgaaDoorR6I
import Derived.Test.YtbgfabppmobpgaaDoorR5U
set_option linter.unusedVariables false
set_option linter.unusedSimpArgs false
namespace Go.Proofs.YtbgfabppmobpgaaDoor
open Go

/-! ### A number taken out of a set -/
theorem s54k {h : H} {v : Value} {ws : List Int} {fp : List Nat} {x : Nat} (hs : SetIs h v ws fp) (hx : x < 4096) :
    CallsA Tryd.prog 54 (fun e => [(e 0).ptr 0, .int .i64 (x : Int)]) [[v]] h (RetC fun r c h' => r = .bool (hasW ws x) ∧ ∃ ws', c = [v] ∧ SetIs h' v ws' fp ∧ hasW ws' = cutP (hasW ws) x ∧ KeptH h h' fp) := by
  have hwd := rowF_words hs.1
  refine c54k (G := [v, .int .i64 (x : Int)]) ⟨hwd.fit, ⟨_, rfl⟩, trivial⟩ ?_
  refine h_call0 (s44 hwd hs.2.1 hx) ?_
  rintro _ h1 ⟨e1, rfl⟩
  have e1' := e1.symm
  subst e1'
  refine ⟨[.bool (hasW ws x)], ⟨⟨_, rfl⟩, trivial⟩, rfl, h_ite (fun hc => ?_) (fun hc => ?_)⟩
  · replace hc : hasW ws x = true := hc
    simp only [List.cons_append, List.nil_append]
    have hlt := hasW_big hc
    have hl := hwd.len
    have hi : ws[x / 64]? = some ws[x / 64] := List.getElem?_eq_getElem (by omega)
    have hm : ws[x / 64] ∈ ws := List.getElem_mem _
    generalize ws[x / 64] = w at hi hm
    have hw0 := hs.2.1 w hm
    obtain ⟨a, rfl⟩ : ∃ a : Nat, w = a := ⟨w.toNat, by omega⟩
    have hp : 2 ^ (x % 64) < 18446744073709551616 := by
      have : 2 ^ (x % 64) < 2 ^ 64 := Nat.pow_lt_pow_right (by omega) (Nat.mod_lt x (by decide : 0 < 64))
      exact this
    obtain ⟨n, q1, q2, q3⟩ := bit_andNot (a := a) (b := 2 ^ (x % 64)) (by omega) hp
    obtain ⟨u1, u2, u3⟩ := word_set hs hi q2
    have nd : ∀ D : List Value, needs (v :: .int .i64 (x : Int) :: D) [(.cmp .geq (.op .quo .i64 (.var 1) (.lit 64)) (.lit 0)), (.cmp .lss (.op .quo .i64 (.var 1) (.lit 64)) (.len 0))] := fun D => by
      simp only [needs, X.den, gv_zero, gv_succ, vi_int, vb_bool, quo_64 hx, hl, cmp_geq, cmp_lss, decide_eq_true_eq, and_true]; omega
    refine ⟨fun _ => nd _, h_load [.int .u64 (a : Int)] ⟨⟨_, rfl⟩, trivial⟩ (fun _ => ?_) ⟨fun _ => ?_, fun _ => nd _, ?_⟩⟩
    · have := hwd.read hi
      simp only [PE.den, X.den, List.cons_append, List.nil_append, gv_zero, gv_succ, vi_int, quo_64 hx, Int.toNat_natCast]; exact this
    · simp only [needs, X.den, gv_zero, gv_succ, List.cons_append, vi_int, vb_bool, rem_64, cmp_geq, decide_eq_true_eq, and_true]; omega
    · refine h_store ((vaddr v).add (x / 64)) [.int .u64 (n : Int)] ?_ ?_ u1 ?_
      · simp only [PE.den, X.den, List.cons_append, List.nil_append, gv_zero, gv_succ, vi_int, quo_64 hx, Int.toNat_natCast, Nat.mul_one]
      · simp only [SV.denL, SV.den, X.den, List.cons_append, List.nil_append, gv_zero, gv_succ, vi_int, rem_64, bit_shl (Nat.mod_lt x (by decide : 0 < 64)), q1]
      · refine ⟨_, rfl, rfl, _, rfl, u2, ?_, u3⟩
        funext y
        rw [hasW_word_set hi]
        unfold cutP
        by_cases e : y / 64 = x / 64
        · rw [if_pos e, q3, Nat.testBit_two_pow]
          have g1 := hasW_word (b := y % 64) hi (Nat.mod_lt _ (by omega))
          rw [show 64 * (x / 64) + y % 64 = y by omega, Int.toNat_natCast] at g1
          rw [← g1]
          congr 2
          exact decide_eq_decide.2 (by omega)
        · rw [if_neg e]
          have : y ≠ x := fun q => e (by rw [q])
          simp [this]
  · replace hc : hasW ws x = false := hc
    refine ⟨_, rfl, rfl, ws, rfl, hs, ?_, KeptH.refl _ _⟩
    funext y
    unfold cutP
    by_cases e : y = x
    · subst e; simp [hc]
    · simp [e]

/-! ### Parts apart -/
def upd (F : Nat → List Nat) (i : Nat) (x : List Nat) : Nat → List Nat := fun j => if j = i then x else F j
theorem upd_same {F : Nat → List Nat} {i : Nat} {x : List Nat} : upd F i x i = x := by unfold upd; rw [if_pos rfl]
theorem upd_ne {F : Nat → List Nat} {i j : Nat} {x : List Nat} (h : j ≠ i) : upd F i x j = F j := by unfold upd; rw [if_neg h]
structure WF (g h : H) (F : Nat → List Nat) : Prop where
  le : g.le h
  fr : ∀ i, Fresh g (F i)
  lv : ∀ i, Live h (F i)
  dis : ∀ i j, i ≠ j → ∀ b ∈ F i, b ∉ F j
section
variable {g h h' : H} {F : Nat → List Nat}
theorem le_live {h h' : H} (hl : h.le h') {f : List Nat} (k : Live h f) : Live h' f := fun b hb => by
  obtain ⟨o, ho⟩ := Option.isSome_iff_exists.1 (k b hb)
  rw [hl b o ho]; rfl
theorem WF.grow (K : WF g h F) (hl : h.le h') : WF g h' F := ⟨K.le.trans hl, K.fr, fun i => le_live hl (K.lv i), K.dis⟩
theorem WF.agr (K : WF g h F) (hl : h.le h') (i : Nat) : Agree h h' (F i) := le_agree' hl (K.lv i)
theorem WF.step (K : WF g h F) {m i : Nat} {f' : List Nat} (hmi : m ≠ i) (hk : KeptH h h' (F m ++ F i)) (hf : ∀ b ∈ f', b ∈ F i ∨ h b = none) (hl : Live h' f') (hl1 : Live h' (F m)) : WF g h' (upd F i f') ∧ ∀ j, j ≠ i → j ≠ m → Agree h h' (F j) := by
  have ag : ∀ j, j ≠ i → j ≠ m → Agree h h' (F j) := fun j hj hm => hk.agree (K.lv j) fun b hb hb' => by
    rcases List.mem_append.1 hb' with q | q
    · exact K.dis j m hm b hb q
    · exact K.dis j i hj b hb q
  have lvn : ∀ {j b}, b ∈ F j → h b = none → False := fun {j b} hj e => by have := K.lv j b hj; rw [e] at this; cases this
  refine ⟨⟨hk.le K.le fun b hb => ?_, fun j b hb => ?_, fun j b hb => ?_, fun a c hac b hb hb' => ?_⟩, ag⟩
  · rcases List.mem_append.1 hb with q | q
    · exact K.fr m b q
    · exact K.fr i b q
  · by_cases e : j = i
    · rw [e, upd_same] at hb
      exact (hf b hb).elim (K.fr i b) (H.le_none K.le)
    · rw [upd_ne e] at hb; exact K.fr j b hb
  · by_cases e : j = i
    · rw [e, upd_same] at hb; exact hl b hb
    · rw [upd_ne e] at hb
      by_cases e2 : j = m
      · rw [e2] at hb; exact hl1 b hb
      · rw [ag j e e2 b hb]; exact K.lv j b hb
  · by_cases e1 : a = i
    · have e2 : c ≠ i := fun e => hac (e1.trans e.symm)
      rw [e1, upd_same] at hb; rw [upd_ne e2] at hb'
      rcases hf b hb with q | q
      · exact K.dis i c (fun e => e2 e.symm) b q hb'
      · exact lvn hb' q
    · rw [upd_ne e1] at hb
      by_cases e2 : c = i
      · rw [e2, upd_same] at hb'
        rcases hf b hb' with q | q
        · exact K.dis a i e1 b hb q
        · exact lvn hb q
      · rw [upd_ne e2] at hb'; exact K.dis a c hac b hb hb'
end

/-! ### The work -/
structure WV where
  near : Value
  moves : Value
  st : Value
  left : Value
  stack : Value
def WV.cells (V : WV) (k : Nat) (fv : Value) : List Value := [natV k, fv, V.near, V.moves, V.st, V.left, V.stack]
structure WO (g h : H) (bw k : Nat) (fv : Value) (firm : List Bool) (w : CW) (V : WV) (F : Nat → List Nat) : Prop where
  wf : WF g h F
  f1 : F 1 = [bw]
  obj : h bw = some (.cells (V.cells k fv).toArray 69 (0, 0))
  frm : BoolsAt g fv firm
  near : SlF 67 1 SetF h V.near w.near (F 2)
  nnd : (F 2).Nodup
  moves : RowF h 41 2 V.moves (edC w.moves) (F 3)
  st : RowF h 3 1 V.st (w.st.map natV) (F 4)
  left : SetF h [V.left] w.left (F 5)
  stack : RowF h 3 1 V.stack (w.stack.map natV) (F 6)
def WOx (g h : H) (bw k : Nat) (fv : Value) (firm : List Bool) (w : CW) : Prop := ∃ V F, WO g h bw k fv firm w V F
section
variable {g h h' : H} {bw k : Nat} {fv : Value} {firm : List Bool} {w : CW} {V : WV} {F : Nat → List Nat}
theorem WO.grow (K : WO g h bw k fv firm w V F) (hl : h.le h') : WO g h' bw k fv firm w V F :=
  ⟨K.wf.grow hl, K.f1, hl _ _ K.obj, K.frm, K.near.agree setF_good (K.wf.agr hl 2), K.nnd, K.moves.agree (K.wf.agr hl 3), K.st.agree (K.wf.agr hl 4), setF_good.1 (K.wf.agr hl 5) K.left, K.stack.agree (K.wf.agr hl 6)⟩
/-- All else is the ground. -/
theorem WO.base (K : WO g h bw k fv firm w V F) : ∃ hb, WO hb h bw k fv firm w V F ∧ g.le hb ∧ hb.le h ∧ ∀ b o, h b = some o → (∀ i, b ∉ F i) → hb b = some o := by
  classical
  have hle : H.le (fun b => if ∃ i, b ∈ F i then none else h b) h := fun b o e => by
    simp only at e
    split at e
    · cases e
    · exact e
  have hge : g.le (fun b => if ∃ i, b ∈ F i then none else h b) := fun b o e => by
    simp only
    rw [if_neg]
    · exact K.wf.le b o e
    · rintro ⟨i, hi⟩; have := K.wf.fr i b hi; rw [this] at e; cases e
  refine ⟨fun b => if ∃ i, b ∈ F i then none else h b, ⟨⟨hle, fun i b hb => by show (if ∃ i, b ∈ F i then none else h b) = none; rw [if_pos ⟨i, hb⟩], K.wf.lv, K.wf.dis⟩, K.f1, K.obj, SlAt.le boolC_mono hge K.frm, K.near, K.nnd, K.moves, K.st, K.left, K.stack⟩, hge, hle, fun b o e hn => ?_⟩
  simp only
  rw [if_neg]
  · exact e
  · rintro ⟨i, hi⟩; exact hn i hi
theorem WO.sub {g' : H} (hl : g'.le g) (hf : BoolsAt g' fv firm) (K : WO g h bw k fv firm w V F) : WO g' h bw k fv firm w V F :=
  ⟨⟨hl.trans K.wf.le, fun i b hb => H.le_none hl (K.wf.fr i b hb), K.wf.lv, K.wf.dis⟩, K.f1, K.obj, hf, K.near, K.nnd, K.moves, K.st, K.left, K.stack⟩
theorem WO.rd (K : WO g h bw k fv firm w V F) {j : Nat} {x : Value} (hx : (V.cells k fv)[j]? = some x) : Reads h (Addr.add ⟨bw, 0, none⟩ j) [x] := fun i v hi => by
  obtain ⟨rfl, rfl⟩ := get_one hi
  rw [add_add, add_lit]
  simp [H.cell?, K.obj, hx]
theorem WO.bw_ne (K : WO g h bw k fv firm w V F) {j b : Nat} (hj : j ≠ 1) (hb : b ∈ F j) : b ≠ bw := fun e => by
  have := K.wf.dis j 1 hj b hb
  rw [K.f1, e] at this; simp at this
theorem WO.chg (K : WO g h bw k fv firm w V F) {i : Nat} {f' : List Nat} (hi : i ≠ 1) (hk : KeptH h h' (bw :: F i)) (hf : ∀ b ∈ f', b ∈ F i ∨ h b = none) (hl : Live h' f') (hob : (h' bw).isSome = true) : WF g h' (upd F i f') ∧ ∀ j, j ≠ i → j ≠ 1 → Agree h h' (F j) := by
  refine K.wf.step (m := 1) hi.symm ?_ hf hl ?_
  · rw [K.f1]; exact hk
  · rw [K.f1]; intro b hb; rw [List.mem_singleton] at hb; rw [hb]; exact hob
/-- A cell of the object is stored to. -/
theorem WO.cell {h1 : H} (hob : h1 bw = some (.cells (V.cells k fv).toArray 69 (0, 0))) {j : Nat} (hj : j < 7) (x : Value) :
    Writable h1 (Addr.add ⟨bw, 0, none⟩ j) 1 ∧ (h1.sets (Addr.add ⟨bw, 0, none⟩ j) [x]) bw = some (.cells ((V.cells k fv).set j x).toArray 69 (0, 0)) ∧ ∀ b, b ≠ bw → (h1.sets (Addr.add ⟨bw, 0, none⟩ j) [x]) b = h1 b := by
  have hlen : (V.cells k fv).length = 7 := rfl
  obtain ⟨c, hc⟩ : ∃ c, (V.cells k fv) = c := ⟨_, rfl⟩
  rw [hc] at hob hlen ⊢
  have hd : c = c.take j ++ [c[j]] ++ c.drop (j + 1) := by
    rw [List.append_assoc, List.singleton_append, ← List.drop_eq_getElem_cons (by omega), List.take_append_drop]
  have hset : c.set j x = c.take j ++ [x] ++ c.drop (j + 1) := by
    rw [List.set_eq_take_append_cons_drop, if_pos (by omega)]; simp
  refine ⟨fun i hi => ?_, ?_⟩
  · obtain rfl : i = 0 := by omega
    rw [add_add, add_lit]
    refine ⟨?_, ?_⟩
    · simp [H.cell?, hob]; omega
    · simp [H.frozen?, hob]
  · have := sets_block (b := bw) (e := 69) (f := (0, 0)) [x] h1 j (c.take j) [c[j]] (c.drop (j + 1)) (by rw [List.length_take]; omega) rfl (by rw [← hd]; exact hob)
    rw [add_lit, Nat.zero_add, hset]
    exact this
end
end Go.Proofs.YtbgfabppmobpgaaDoor
