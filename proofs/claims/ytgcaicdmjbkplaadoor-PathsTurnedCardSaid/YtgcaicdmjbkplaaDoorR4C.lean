/-
  The order in which blocks are gone down to: what Order computes, and the document's answer. Conditions: as each contract says.
-/
import Derived.Test.YtgcaicdmjbkplaaDoorR4B
set_option linter.unusedVariables false
set_option linter.unusedSimpArgs false
namespace Go.Proofs.YtgcaicdmjbkplaaDoor
open Go

def downM (B : List Blk) : Nat → Nat → List Nat × List Nat → List Nat × List Nat
  | 0, _, s => s
  | n + 1, b, s => if b ∈ s.1 then s else
      (((nextN B b).foldl (fun s m => downM B n m s) (b :: s.1, s.2)).1, ((nextN B b).foldl (fun s m => downM B n m s) (b :: s.1, s.2)).2 ++ [b])
theorem downM_succ {B : List Blk} {n b : Nat} {s : List Nat × List Nat} (h : b ∉ s.1) : downM B (n + 1) b s =
    (((nextN B b).foldl (fun s m => downM B n m s) (b :: s.1, s.2)).1, ((nextN B b).foldl (fun s m => downM B n m s) (b :: s.1, s.2)).2 ++ [b]) := by rw [downM, if_neg h]
def csM (B : List Blk) (S : List Nat) : Nat := cu B.length fun x => decide (x ∈ S)
theorem csM_le {B : List Blk} {S T : List Nat} (h : ∀ x ∈ S, x ∈ T) : csM B T ≤ csM B S := cu_le fun x hx => by
  rw [decide_eq_true_eq] at hx ⊢; exact h x hx
theorem csM_cons {B : List Blk} {S : List Nat} {b : Nat} (hb : b < B.length) (h : b ∉ S) : csM B (b :: S) < csM B S :=
  cu_lt hb (by simpa using h) (by simp) fun x hx => by rw [decide_eq_true_eq] at hx ⊢; exact List.mem_cons_of_mem _ hx
theorem csM_zero {B : List Blk} {S : List Nat} {b : Nat} (hb : b < B.length) (h : csM B S = 0) : b ∈ S := by
  by_cases hm : b ∈ S
  · exact hm
  · have := csM_cons hb hm; omega
theorem downM_sub (B : List Blk) : ∀ (n b : Nat) (s : List Nat × List Nat), ∀ x ∈ s.1, x ∈ (downM B n b s).1
  | 0, b, s, x, hx => hx
  | n + 1, b, s, x, hx => by
    unfold downM
    split
    · exact hx
    · have key : ∀ (l : List Nat) (s : List Nat × List Nat), x ∈ s.1 → x ∈ (l.foldl (fun s m => downM B n m s) s).1 := by
        intro l
        induction l with
        | nil => exact fun s h => h
        | cons a l ih => exact fun s h => ih _ (downM_sub B n a s x h)
      exact key _ _ (List.mem_cons_of_mem _ hx)
theorem foldM_sub (B : List Blk) (n : Nat) {x : Nat} : ∀ (l : List Nat) (s : List Nat × List Nat), x ∈ s.1 → x ∈ (l.foldl (fun s m => downM B n m s) s).1
  | [], s, h => h
  | a :: l, s, h => foldM_sub B n l _ (downM_sub B n a s x h)
theorem downM_len {B : List Blk} (hB : OkB B) : ∀ (n b : Nat) (s : List Nat × List Nat), b < B.length → (downM B n b s).2.length + csM B (downM B n b s).1 ≤ s.2.length + csM B s.1
  | 0, b, s, hb => Nat.le_refl _
  | n + 1, b, s, hb => by
    unfold downM
    split
    · exact Nat.le_refl _
    · rename_i hm
      have key : ∀ (l : List Nat) (s : List Nat × List Nat), (∀ m ∈ l, m < B.length) → (l.foldl (fun s m => downM B n m s) s).2.length + csM B (l.foldl (fun s m => downM B n m s) s).1 ≤ s.2.length + csM B s.1 := by
        intro l
        induction l with
        | nil => exact fun s _ => Nat.le_refl _
        | cons a l ih => exact fun s h => Nat.le_trans (ih _ fun m hm => h m (List.mem_cons_of_mem _ hm)) (downM_len hB n a s (h a (List.mem_cons_self ..)))
      have h1 := key (nextN B b) (b :: s.1, s.2) fun m hm => nextN_lt hB hm
      have h2 := csM_cons hb hm
      simp only [List.length_append, List.length_cons, List.length_nil] at h1 ⊢
      omega
theorem foldM_len {B : List Blk} (hB : OkB B) (n : Nat) : ∀ (l : List Nat) (s : List Nat × List Nat), (∀ m ∈ l, m < B.length) → (l.foldl (fun s m => downM B n m s) s).2.length + csM B (l.foldl (fun s m => downM B n m s) s).1 ≤ s.2.length + csM B s.1
  | [], s, _ => Nat.le_refl _
  | a :: l, s, h => Nat.le_trans (foldM_len hB n l _ fun m hm => h m (List.mem_cons_of_mem _ hm)) (downM_len hB n a s (h a (List.mem_cons_self ..)))
theorem foldM_snoc (B : List Blk) (n : Nat) (l : List Nat) (a : Nat) (s : List Nat × List Nat) : (l ++ [a]).foldl (fun s m => downM B n m s) s = downM B n a (l.foldl (fun s m => downM B n m s) s) := by
  rw [List.foldl_append]; rfl
abbrev natV (n : Nat) : Value := .int .i64 (n : Int)
/-- The walk's state. -/
def WalkS (h0 h : H) (v : Value) (c : List Value) (s : List Nat × List Nat) : Prop :=
  ∃ vw vo ws fs fo, c = [v, vw, vo] ∧ SetIs h vw ws fs ∧ (∀ x, hasW ws x = decide (x ∈ s.1)) ∧ RowF h 3 1 vo (s.2.map natV) fo ∧ (∀ b ∈ fs, b ∉ fo) ∧ Fresh h0 fs ∧ Fresh h0 fo ∧ h0.le h
theorem WalkS.fits {h0 h : H} {v : Value} {c : List Value} {s : List Nat × List Nat} (hv : Fits .sl v) (W : WalkS h0 h v c s) : FitsL [.sl, .sl, .sl] c := by
  obtain ⟨vw, vo, ws, fs, fo, rfl, h1, h2, h3, h4, h5, h6, h7⟩ := W
  exact ⟨hv, h1.fit, h3.row0.fit, trivial⟩
theorem len_of_rowF {h : H} {e : TypeId} {v : Value} {cs : List Value} {fp : List Nat} (k : RowF h e 1 v cs fp) : vlen v = cs.length := by have := k.row0.len; omega
set_option maxRecDepth 4000 in
theorem s62k {v : Value} {B : List Blk} (hB : OkB B) (hBl : B.length ≤ 1000) : ∀ (n : Nat) {h0 h : H} {c : List Value} {s : List Nat × List Nat} {b : Nat}, BlksAt h0 v B → WalkS h0 h v c s → b < B.length → csM B s.1 ≤ n → s.2.length + csM B s.1 ≤ 1000 →
    CallsA Tryd.prog 62 (fun e => [(e 0).ptr 0, .int .i64 (b : Int)]) [c] h (RetC fun r c' h' => r = .tuple #[] ∧ WalkS h0 h' v c' (downM B n b s)) := by
  intro n
  induction n with
  | zero =>
    intro h0 h c s b hv W hb hcs hlen
    have hbm : b ∈ s.1 := csM_zero hb (by omega)
    have hvf := hv.fit
    obtain ⟨vw, vo, ws, fs, fo, rfl, h1, h2, h3, h4, h5, h6, h7⟩ := W
    refine c62k (G := [v, vw, vo, .int .i64 (b : Int)]) ⟨hvf, h1.fit, h3.row0.fit, ⟨_, rfl⟩, trivial⟩ ?_
    refine h_call1 (Q := fun r c' h' => r = .bool (!hasW ws b) ∧ ∃ v' ws' fp', c' = [v, v', vo] ∧ SetIs h' v' ws' fp' ∧ (∀ y, hasW ws' y = (hasW ws y || decide (y = b))) ∧ KeptH h h' fs ∧ ∀ x ∈ fp', x ∈ fs ∨ h x = none)
      ((CallsA.mid (A := [v]) (C := [vo]) (k := 1) rfl (s19k h1 (by omega))).mono fun r cs h' ⟨M', e1, _, c0, e2, hr, v', ws', fp', e3, q1, q2, q3, q4⟩ => ⟨_, e1, hr, v', ws', fp', by cases e2; rw [e3]; rfl, q1, q2, q3, q4⟩) ?_
    rintro _ c' h' ⟨rfl, v', ws', fp', rfl, q1, q2, q3, q4⟩
    refine ⟨⟨hvf, q1.fit, h3.row0.fit, trivial⟩, [.bool (!hasW ws b)], ⟨⟨_, rfl⟩, trivial⟩, rfl, ?_⟩
    have hh : hasW ws b = true := by rw [h2]; simpa using hbm
    refine h_ite (fun _ => ?_) (fun hc => ?_)
    · refine ⟨_, rfl, rfl, v', vo, ws', fp', fo, rfl, q1, fun x => ?_, h3.agree (q3.agree h3.live fun x hx hx' => h4 x hx' hx), fun x hx hx' => ?_, fun x hx => ?_, h6, q3.le h7 h5⟩
      · show hasW ws' x = decide (x ∈ s.1)
        rw [q2, h2]
        by_cases e : x = b
        · subst e; simp [hbm]
        · simp [e]
      · rcases q4 x hx with q | q
        · exact h4 x q hx'
        · have := h3.live x hx'; rw [q] at this; cases this
      · rcases q4 x hx with q | q
        · exact h5 x q
        · exact H.le_none h7 q
    · replace hc : (!(!hasW ws b)) = false := hc
      rw [hh] at hc; cases hc
  | succ n ih =>
    intro h0 h c s b hv W hb hcs hlen
    have hvf := hv.fit
    obtain ⟨vw, vo, ws, fs, fo, rfl, h1, h2, h3, h4, h5, h6, h7⟩ := W
    refine c62k (G := [v, vw, vo, .int .i64 (b : Int)]) ⟨hvf, h1.fit, h3.row0.fit, ⟨_, rfl⟩, trivial⟩ ?_
    refine h_call1 (Q := fun r c' h' => r = .bool (!hasW ws b) ∧ ∃ v' ws' fp', c' = [v, v', vo] ∧ SetIs h' v' ws' fp' ∧ (∀ y, hasW ws' y = (hasW ws y || decide (y = b))) ∧ KeptH h h' fs ∧ ∀ x ∈ fp', x ∈ fs ∨ h x = none)
      ((CallsA.mid (A := [v]) (C := [vo]) (k := 1) rfl (s19k h1 (by omega))).mono fun r cs h' ⟨M', e1, _, c0, e2, hr, v', ws', fp', e3, q1, q2, q3, q4⟩ => ⟨_, e1, hr, v', ws', fp', by cases e2; rw [e3]; rfl, q1, q2, q3, q4⟩) ?_
    rintro _ c' g1 ⟨rfl, vw1, ws1, fs1, rfl, q1, q2, q3, q4⟩
    refine ⟨⟨hvf, q1.fit, h3.row0.fit, trivial⟩, [.bool (!hasW ws b)], ⟨⟨_, rfl⟩, trivial⟩, rfl, ?_⟩
    simp only [List.cons_append, List.nil_append]
    have r1 : RowF g1 3 1 vo (s.2.map natV) fo := h3.agree (q3.agree h3.live fun x hx hx' => h4 x hx' hx)
    have d1 : ∀ x ∈ fs1, x ∉ fo := fun x hx hx' => by
      rcases q4 x hx with q | q
      · exact h4 x q hx'
      · have := h3.live x hx'; rw [q] at this; cases this
    have f1 : Fresh h0 fs1 := fun x hx => by
      rcases q4 x hx with q | q
      · exact h5 x q
      · exact H.le_none h7 q
    have l1 : h0.le g1 := q3.le h7 h5
    refine h_ite (fun hc => ?_) (fun hc => ?_)
    · replace hc : (!(!hasW ws b)) = true := hc
      rw [Bool.not_not, h2, decide_eq_true_eq] at hc
      have e : downM B (n + 1) b s = s := by unfold downM; rw [if_pos hc]
      rw [e]
      refine ⟨_, rfl, rfl, vw1, vo, ws1, fs1, fo, rfl, q1, fun x => ?_, r1, d1, f1, h6, l1⟩
      rw [q2, h2]
      by_cases e : x = b
      · subst e; simp [hc]
      · simp [e]
    · replace hc : (!(!hasW ws b)) = false := hc
      rw [Bool.not_not, h2, decide_eq_false_iff_not] at hc
      obtain ⟨N, hNd⟩ : ∃ N, N = nextN B b := ⟨_, rfl⟩
      have e : downM B (n + 1) b s = ((N.foldl (fun s m => downM B n m s) (b :: s.1, s.2)).1, (N.foldl (fun s m => downM B n m s) (b :: s.1, s.2)).2 ++ [b]) := by rw [hNd]; exact downM_succ hc
      rw [e]
      have hcs1 := csM_cons hb hc
      have hbl := List.getElem?_eq_getElem hb
      generalize B[b] = x at hbl
      have hvl := hv.len
      refine ⟨fun _ => ⟨ge0 b, ?_, trivial⟩, h_load (endC x.en) (endFit x.en) (fun _ => ?_) ?_⟩
      · show cmpOp .lss (b : Int) ((vlen v : Nat) : Int) = true
        rw [hvl]; exact ltN hb
      · exact (show Reads g1 (((vaddr v).add (b * 5)).add 1) (endC x.en) from by rw [add_add]; exact blks_get (SlAt.le blkC_mono l1 hv) hbl)
      simp only [endC, List.cons_append, List.nil_append]
      refine h_call0 (s49 x.en) ?_
      rintro vn g4 ⟨hl4, hon⟩
      refine ⟨[vn], ⟨hon.ints.fit, trivial⟩, rfl, ?_⟩
      simp only [List.cons_append, List.nil_append]
      have hN : N = (nextL x.en).map Int.toNat := by rw [hNd]; exact nextN_at hbl
      have hNr : ∀ n ∈ nextL x.en, 0 ≤ n ∧ n < (B.length : Int) := hB x (List.mem_of_getElem? hbl)
      have hnl := hon.ints.len
      have hNl : N.length = (nextL x.en).length := by rw [hN, List.length_map]
      have hN2 : N.length ≤ 2 := by rw [hNl]; unfold nextL; split <;> (try split) <;> simp
      have hlf : Live g1 (fs1 ++ fo) := fun y hy => by
        rcases List.mem_append.1 hy with q | q
        · exact q1.live y q
        · exact r1.live y q
      obtain ⟨hb4, hbd⟩ : ∃ hb4, hb4 = H.cut g4 (fs1 ++ fo) := ⟨_, rfl⟩
      have hlb : h0.le hb4 := by
        rw [hbd]; exact H.le_cut (l1.trans hl4) fun y hy => by
          rcases List.mem_append.1 hy with q | q
          · exact f1 y q
          · exact h6 y q
      have hbl4 : hb4.le g4 := by rw [hbd]; exact H.cut_le _ _
      have hfb : Fresh hb4 (fs1 ++ fo) := by rw [hbd]; exact H.cut_fresh _ _
      have hN4 : IntsAt hb4 vn (nextL x.en) := by rw [hbd]; exact OwnInts.ints (Row.cut hon hlf)
      have W4 : WalkS hb4 g4 v [v, vw1, vo] (b :: s.1, s.2) := by
        refine ⟨vw1, vo, ws1, fs1, fo, rfl, q1.agree (hl4.kept.agree q1.live fun y _ => by simp), fun y => ?_, r1.agree (hl4.kept.agree r1.live fun y _ => by simp), d1, fun y hy => hfb y (by simp [hy]), fun y hy => hfb y (by simp [hy]), hbl4⟩
        rw [q2, h2]
        by_cases e : y = b
        · subst e; simp
        · simp [e]
      refine h_loop (fun xs h5 => ∃ (i : Nat) (c5 : List Value), xs = .int .i64 (i : Int) :: c5 ∧ i ≤ N.length ∧ WalkS hb4 h5 v c5 ((N.take i).foldl (fun s m => downM B n m s) (b :: s.1, s.2)))
        (fun xs h' => (N.length - vi (gv xs 0)).toNat) ⟨0, [v, vw1, vo], rfl, by omega, W4⟩ ?_
      rintro xs h5 J5 - ⟨i, c5, rfl, hi, W5⟩ hJ5
      have hW5 := W5
      obtain ⟨vw5, vo5, ws5, fs5, fo5, rfl, a1, a2, a3, a4, a5, a6, a7⟩ := W5
      simp only [List.cons_append, List.nil_append]
      obtain ⟨S5, hS5⟩ : ∃ S5, S5 = (N.take i).foldl (fun s m => downM B n m s) (b :: s.1, s.2) := ⟨_, rfl⟩
      have hNt : ∀ m ∈ N.take i, m < B.length := fun m hm => nextN_lt hB (hNd ▸ List.mem_of_mem_take hm)
      have hl5 := foldM_len hB n (N.take i) (b :: s.1, s.2) hNt
      rw [← hS5] at a2 a3 hW5 hl5
      simp only at hl5
      refine h_ite (fun hc5 => ?_) (fun hc5 => ?_)
      · replace hc5 : cmpOp .lss (i : Int) ((vlen vn : Nat) : Int) = true := hc5
        rw [hnl, cmp_lss, decide_eq_true_eq] at hc5
        have hiN : i < (nextL x.en).length := by omega
        have hx : (nextL x.en)[i]? = some (nextL x.en)[i] := List.getElem?_eq_getElem hiN
        have hxm : (nextL x.en)[i] ∈ nextL x.en := List.getElem_mem _
        generalize (nextL x.en)[i] = y at hx hxm
        obtain ⟨hy0, hy1⟩ := hNr y hxm
        obtain ⟨y, rfl⟩ : ∃ z : Nat, y = z := ⟨y.toNat, by omega⟩
        have hyt : N.take (i + 1) = N.take i ++ [y] := by
          have : N[i]? = some y := by rw [hN, List.getElem?_map, hx]; simp
          rw [List.take_add_one, this]; rfl
        refine ⟨fun _ => ⟨ge0 i, ?_, trivial⟩, h_load [.int .i64 (y : Int)] ⟨⟨_, rfl⟩, trivial⟩ (fun _ => ?_) ?_⟩
        · show cmpOp .lss (i : Int) ((vlen vn : Nat) : Int) = true
          rw [hnl]; exact ltN hiN
        · have := (hN4.le a7).read hx
          exact this
        simp only [List.cons_append, List.nil_append]
        have hsub : csM B S5.1 ≤ n := by
          have : csM B S5.1 ≤ csM B (b :: s.1) := csM_le fun z hz => by rw [hS5]; exact foldM_sub B n _ _ hz
          omega
        refine h_call1 (Q := fun r c' h' => r = .tuple #[] ∧ WalkS hb4 h' v c' (downM B n y S5)) (ih (SlAt.le blkC_mono hlb hv) hW5 (by omega) hsub (by omega)) ?_
        rintro _ c6 h6' ⟨rfl, W6⟩
        refine ⟨W6.fits hvf, [], trivial, rfl, ?_⟩
        have hW6 := W6
        obtain ⟨vw6, vo6, ws6, fs6, fo6, rfl, -⟩ := W6
        show J5 [.int .i64 (intOp .add .i64 (i : Int) 1), v, vw6, vo6] h6'
        rw [int_add_one (n := 1000) (by omega) (by omega)]
        refine hJ5 _ _ ⟨i + 1, _, rfl, by omega, ?_⟩ ?_
        · rw [hyt, foldM_snoc, ← hS5]; exact hW6
        · simp only [gv_zero, vi_int]; omega
      · replace hc5 : cmpOp .lss (i : Int) ((vlen vn : Nat) : Int) = false := hc5
        rw [hnl, cmp_lss, decide_eq_false_iff_not] at hc5
        have hie : i = N.length := by omega
        have htk : N.take i = N := by rw [hie, List.take_length]
        rw [htk] at hS5
        rw [← hS5]
        refine ⟨[natV b], 1, ⟨rfl, rfl⟩, ?_⟩
        show AppSpec _ _ _ _ _ vo5 _ _ _
        have hlo := len_of_rowF a3
        rw [List.length_map] at hlo
        refine app_rowF a3 rfl zero_int (by rw [hlo]; omega) fun vo7 h7' fo7 m1 m2 m3 m4 => ?_
        have m4' : ∀ y ∈ fo7, y ∈ fo5 ∨ h5 y = none := fun y hy => by
          rcases m4 with rfl | ⟨y', rfl, hy'⟩
          · exact .inl hy
          · rw [List.mem_singleton] at hy; subst hy; exact .inr hy'
        refine ⟨_, rfl, rfl, vw5, vo7, ws5, fs5, fo7, rfl, a1.agree (m3.agree a1.live a4), a2, by rw [List.map_append]; exact m1, fun y hy hy' => ?_, fun y hy => H.le_none hlb (a5 y hy), fun y hy => ?_, hlb.trans (m3.le a7 a6)⟩
        · rcases m4' y hy' with q | q
          · exact a4 y hy q
          · have := a1.live y hy; rw [q] at this; cases this
        · rcases m4' y hy with q | q
          · exact H.le_none hlb (a6 y q)
          · exact H.le_none (hlb.trans a7) q
/-! ### Turned round -/
def revJ (O : List Value) (j : Nat) : List Value := (List.range O.length).map fun p => if p < j ∨ O.length ≤ p + j then O.getD (O.length - 1 - p) undef else O.getD p undef
theorem revJ_len (O : List Value) (j : Nat) : (revJ O j).length = O.length := by simp [revJ]
theorem revJ_get {O : List Value} {j p : Nat} (hp : p < O.length) : (revJ O j)[p]? = some (if p < j ∨ O.length ≤ p + j then O.getD (O.length - 1 - p) undef else O.getD p undef) := by
  unfold revJ; rw [List.getElem?_map, List.getElem?_range hp]; rfl
theorem revJ_zero (O : List Value) : revJ O 0 = O := by
  apply List.ext_getElem?
  intro p
  by_cases hp : p < O.length
  · rw [revJ_get hp, if_neg (by omega), List.getD_eq_getElem?_getD, List.getElem?_eq_getElem hp]; rfl
  · rw [List.getElem?_eq_none (by rw [revJ_len]; omega), List.getElem?_eq_none (by omega)]
theorem revJ_all {O : List Value} {j : Nat} (hj : O.length ≤ 2 * j + 1) : revJ O j = O.reverse := by
  apply List.ext_getElem?
  intro p
  by_cases hp : p < O.length
  · rw [revJ_get hp, List.getElem?_reverse hp]
    have hp' : O.length - 1 - p < O.length := by omega
    by_cases hc : p < j ∨ O.length ≤ p + j
    · rw [if_pos hc, List.getD_eq_getElem?_getD, List.getElem?_eq_getElem hp']; rfl
    · rw [if_neg hc, List.getD_eq_getElem?_getD]
      have : O.length - 1 - p = p := by omega
      rw [this, List.getElem?_eq_getElem hp]; rfl
  · rw [List.getElem?_eq_none (by rw [revJ_len]; omega), List.getElem?_eq_none (by rw [List.length_reverse]; omega)]
theorem revJ_step {O : List Value} {j : Nat} (hj : 2 * j + 1 < O.length) : ((revJ O j).set j (O.getD (O.length - 1 - j) undef)).set (O.length - 1 - j) (O.getD j undef) = revJ O (j + 1) := by
  apply List.ext_getElem?
  intro p
  by_cases hp : p < O.length
  · rw [List.getElem?_set, List.getElem?_set, List.length_set, revJ_len, revJ_get hp, revJ_get hp]
    by_cases h1 : O.length - 1 - j = p
    · rw [if_pos h1, if_pos (by omega), if_pos (by omega)]
      congr 2; omega
    · rw [if_neg h1]
      by_cases h2 : j = p
      · rw [if_pos h2, if_pos (by omega), if_pos (by omega)]
        subst h2; rfl
      · rw [if_neg h2]
        by_cases hc : p < j ∨ O.length ≤ p + j
        · rw [if_pos hc, if_pos (by omega)]
        · rw [if_neg hc, if_neg (by omega)]
  · rw [List.getElem?_eq_none (by rw [List.length_set, List.length_set, revJ_len]; omega), List.getElem?_eq_none (by rw [revJ_len]; omega)]
theorem rowF_set {h : H} {e : TypeId} {v x : Value} {cs : List Value} {fp : List Nat} {i : Nat} (k : RowF h e 1 v cs fp) (hi : i < cs.length) :
    Writable h ((vaddr v).add i) 1 ∧ RowF (h.sets ((vaddr v).add i) [x]) e 1 v (cs.set i x) fp ∧ KeptH h (h.sets ((vaddr v).add i) [x]) fp := by
  have hsp : cs = cs.take i ++ [cs[i]] ++ cs.drop (i + 1) := by
    conv => lhs; rw [← List.take_append_drop i cs, List.drop_eq_getElem_cons hi]
    simp only [List.append_assoc, List.cons_append, List.nil_append]
  have hsp' : cs.set i x = cs.take i ++ [x] ++ cs.drop (i + 1) := by
    rw [List.set_eq_take_append_cons_drop, if_pos hi]; simp only [List.append_assoc, List.cons_append, List.nil_append]
  have hal : (cs.take i).length = i := by rw [List.length_take]; omega
  have hl := len_of_rowF k
  obtain ⟨aa, nn, cc, e0, _, e3⟩ := k.row0.fit
  have k' := k
  rw [hsp] at k'
  obtain ⟨s1, s2⟩ := set_rowF (N := [x]) k' rfl (by simp)
  rw [hal] at s1 s2
  refine ⟨?_, by rw [hsp']; exact s1, fun b hb _ => s2 b hb⟩
  refine k.row0.writable ?_
  rw [e0] at hl ⊢
  simp only [vlen_sl] at hl
  simp only [vcap_sl]; omega
theorem rowF_read {h : H} {e : TypeId} {v : Value} {cs : List Value} {fp : List Nat} {i : Nat} (k : RowF h e 1 v cs fp) {x : Value} (hi : cs[i]? = some x) : Reads h ((vaddr v).add (i * 1)) [x] := by
  rw [Nat.mul_one]
  exact k.row0.reads fun j u hj => by obtain ⟨rfl, rfl⟩ := get_one hj; exact hi
def orderM (B : List Blk) : List Nat := (downM B B.length 0 ([], [])).2.reverse
theorem csM_nil (B : List Blk) : csM B [] = B.length := by
  unfold csM cu
  have : (List.range B.length).filter (fun x => !decide (x ∈ ([] : List Nat))) = List.range B.length := List.filter_eq_self.2 fun x _ => by simp
  rw [this, List.length_range]
theorem ints_of_nats {h : H} {e : TypeId} {v : Value} {l : List Nat} {fp : List Nat} (k : RowF h e 1 v (l.map natV) fp) : IntsAt h v (l.map Int.ofNat) := by
  refine rowF_ints (e := e) (fp := fp) ?_
  rw [List.map_map]; exact k
theorem natV_at {O : List Nat} {i : Nat} (hi : i < O.length) : ∃ y : Nat, O[i]? = some y ∧ (O.map natV).getD i undef = natV y := by
  refine ⟨O[i], List.getElem?_eq_getElem hi, ?_⟩
  rw [List.getD_eq_getElem?_getD, List.getElem?_map, List.getElem?_eq_getElem hi]; rfl
theorem s41 {h : H} {v : Value} {B : List Blk} (hv : BlksAt h v B) (hB : OkB B) (h1 : 1 ≤ B.length) (h2 : B.length ≤ 1000) :
    CallsA Tryd.prog 41 (fun _ => [v]) [] h (Ret fun r h' => h.le h' ∧ IntsAt h' r ((orderM B).map Int.ofNat)) := by
  refine c41 (G := [v]) ⟨hv.fit, trivial⟩ ?_
  have hcs := csM_nil B
  refine h_call1 (Q := fun r c' h' => r = .tuple #[] ∧ WalkS h h' v c' (downM B B.length 0 ([], []))) (s62k hB h2 B.length (c := [v, .slice none 0 0, .slice none 0 0]) (s := ([], [])) (b := 0) hv ⟨.slice none 0 0, .slice none 0 0, [], [], [], rfl, ⟨.inl ⟨rfl, rfl, rfl⟩, (fun w hw => by cases hw), by simp⟩, (fun x => by simp [hasW]), .inl ⟨rfl, rfl, rfl⟩, (fun b hb => by cases hb), (fun b hb => by cases hb), (fun b hb => by cases hb), H.le_refl _⟩ (by omega) (by rw [hcs]; exact Nat.le_refl _) (by rw [hcs]; simpa using h2)) ?_
  rintro _ c' g1 ⟨rfl, W⟩
  have hfit := W.fits hv.fit
  have hlen := downM_len hB B.length 0 ([], []) (by omega)
  obtain ⟨O, hO⟩ : ∃ O, O = (downM B B.length 0 ([], [])).2 := ⟨_, rfl⟩
  have hord : orderM B = O.reverse := by rw [hO]; rfl
  rw [hord]
  obtain ⟨vw, vo, ws, fs, fo, rfl, a1, a2, a3, a4, a5, a6, a7⟩ := W
  rw [← hO] at a3 hlen
  rw [hcs] at hlen
  simp only [List.length_nil] at hlen
  refine ⟨hfit, [], trivial, rfl, ?_⟩
  simp only [List.cons_append, List.nil_append]
  obtain ⟨V, hV⟩ : ∃ V, V = O.map natV := ⟨_, rfl⟩
  have hVl : V.length = O.length := by rw [hV, List.length_map]
  have hlo := len_of_rowF a3
  rw [← hV, hVl] at hlo
  have hO1 : O.length ≤ 1000 := by omega
  have hk0 : intOp .sub .i64 ((O.length : Nat) : Int) 1 = (O.length : Int) - 1 := by
    simp only [intOp]; rw [wrap_i64 (by omega) (by omega)]
  refine h_loop (fun xs h' => ∃ j : Nat, xs = [.int .i64 (j : Int), .int .i64 ((O.length : Int) - 1 - j)] ∧ 2 * j ≤ O.length + 1 ∧ RowF h' 3 1 vo (revJ V j) fo ∧ h.le h')
    (fun xs h' => (O.length - vi (gv xs 0)).toNat) ⟨0, ?_, by omega, by rw [revJ_zero, hV]; exact a3, a7⟩ ?_
  · show [Value.int .i64 0, .int .i64 (intOp .sub .i64 ((vlen vo : Nat) : Int) 1)] = _
    rw [hlo, hk0]; simp
  rintro xs h' J - ⟨j, rfl, hj, r5, l5⟩ hJ
  simp only [List.cons_append, List.nil_append]
  refine h_ite (fun hc => ?_) (fun hc => ?_)
  · replace hc : cmpOp .lss (j : Int) ((O.length : Int) - 1 - j) = true := hc
    rw [cmp_lss, decide_eq_true_eq] at hc
    obtain ⟨k, hk⟩ : ∃ k : Nat, k = O.length - 1 - j := ⟨_, rfl⟩
    have hkI : (O.length : Int) - 1 - j = (k : Int) := by omega
    rw [hkI]
    have hkl : k < O.length := by omega
    have hjl : j < O.length := by omega
    obtain ⟨xk, ek, dk⟩ := natV_at hkl
    obtain ⟨xj, ej, dj⟩ := natV_at hjl
    rw [← hV] at dk dj
    have gk : (revJ V j)[k]? = some (natV xk) := by rw [revJ_get (by omega), if_neg (by rw [hVl]; omega), dk]
    have gj : (revJ V j)[j]? = some (natV xj) := by rw [revJ_get (by omega), if_neg (by rw [hVl]; omega), dj]
    have nd : ∀ (D : List Value) (i : Nat) (q : Nat), gv D q = .int .i64 (i : Int) → gv D 3 = vo → i < O.length → needs D [(.cmp .geq (.var q) (.lit 0)), (.cmp .lss (.var q) (.len 3))] := fun D i q e1 e2 hi => by
      simp only [needs, X.den, e1, e2, hlo, vb_bool, vi_int, and_true]
      exact ⟨ge0 i, ltN hi⟩
    obtain ⟨w1, w2, w3⟩ := rowF_set (i := j) (x := natV xk) r5 (by rw [revJ_len]; omega)
    obtain ⟨y1, y2, y3⟩ := rowF_set (i := k) (x := natV xj) w2 (by rw [List.length_set, revJ_len]; omega)
    refine ⟨fun _ => nd _ k 5 rfl rfl hkl, h_load [natV xk] ⟨⟨_, rfl⟩, trivial⟩ (fun _ => rowF_read r5 gk) ⟨fun _ => nd _ j 4 rfl rfl hjl, h_load [natV xj] ⟨⟨_, rfl⟩, trivial⟩ (fun _ => rowF_read r5 gj) ⟨fun _ => nd _ j 4 rfl rfl hjl, ?_⟩⟩⟩
    refine h_store ((vaddr vo).add j) [natV xk] (by show (vaddr vo).add (j * 1) = _; rw [Nat.mul_one]) rfl w1 ⟨fun _ => nd _ k 5 rfl rfl hkl, ?_⟩
    refine h_store ((vaddr vo).add k) [natV xj] (by show (vaddr vo).add (k * 1) = _; rw [Nat.mul_one]) rfl y1 ?_
    show J [.int .i64 (intOp .add .i64 (j : Int) 1), .int .i64 (intOp .sub .i64 (k : Int) 1)] _
    rw [int_add_one (n := 1000) (by omega) (by omega)]
    refine hJ _ _ ⟨j + 1, ?_, by omega, ?_, y3.le (w3.le l5 a6) a6⟩ ?_
    · have : intOp .sub .i64 (k : Int) 1 = (k : Int) - 1 := by simp only [intOp]; rw [wrap_i64 (by omega) (by omega)]
      rw [this]
      have : (k : Int) - 1 = (O.length : Int) - 1 - ((j + 1 : Nat) : Int) := by omega
      rw [this]
    · have := revJ_step (O := V) (j := j) (by omega)
      rw [hVl, ← hk, dk, dj] at this
      rw [← this]; exact y2
    · simp only [gv_zero, vi_int]; omega
  · replace hc : cmpOp .lss (j : Int) ((O.length : Int) - 1 - j) = false := hc
    rw [cmp_lss, decide_eq_false_iff_not] at hc
    rw [revJ_all (by omega), hV, ← List.map_reverse] at r5
    exact ⟨rfl, l5, ints_of_nats r5⟩
end Go.Proofs.YtgcaicdmjbkplaaDoor
