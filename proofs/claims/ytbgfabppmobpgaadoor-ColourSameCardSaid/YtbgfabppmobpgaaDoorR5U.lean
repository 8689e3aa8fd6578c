/-
  Sets in chunks: joined, made less, cut, made of numbers. Conditions: as each contract says.
-/
import Derived.Test.YtbgfabppmobpgaaDoorR5T
set_option linter.unusedVariables false
set_option linter.unusedSimpArgs false
namespace Go.Proofs.YtbgfabppmobpgaaDoor
open Go

theorem s52k {h : H} {v o : Value} {ws wo : List Int} {fp : List Nat} (ht : Tab h) (hs : SetIs h v ws fp) (ho : WordsAt h o wo) (hwo : InW wo) (hlo : wo.length ≤ 64) :
    CallsA Tryd.prog 52 (fun e => [(e 0).ptr 0, .agg #[o]]) [[v]] h (RetC fun r c h' => r = .bool (decide (cntP (hasW ws) < cntP (orP (hasW ws) (hasW wo)))) ∧ ∃ v' ws' fp', c = [v'] ∧ SetIs h' v' ws' fp' ∧ (∀ y, hasW ws' y = (hasW ws y || hasW wo y)) ∧ KeptH h h' fp ∧ ∀ x ∈ fp', x ∈ fp ∨ h x = none) := by
  refine c52k (G := [v, o]) ⟨hs.fit, ho.fit, trivial⟩ ?_
  have hwd := rowF_words hs.1
  refine h_call0 (s61 hwd hs.2.1 hs.2.2) ?_
  rintro _ g1 ⟨e1, rfl⟩
  have e1' := e1.symm
  subst e1'
  rw [allW_cnt hs.2.2]
  refine ⟨[.int .i64 (cntP (hasW ws) : Int)], ⟨⟨_, rfl⟩, trivial⟩, rfl, ?_⟩
  simp only [List.cons_append, List.nil_append]
  refine h_call0 (s45 ht ho hwo hlo) ?_
  rintro vl g2 ⟨hl2, hall⟩
  have hil := hall.ints.len
  rw [List.length_map] at hil
  refine ⟨[vl], ⟨hall.ints.fit, trivial⟩, rfl, ?_⟩
  simp only [List.cons_append, List.nil_append]
  have hlive := hs.live
  have hs2 : SetIs g2 v ws fp := hs.agree (hl2.kept.agree hlive fun b _ => by simp)
  obtain ⟨hb, hbd⟩ : ∃ hb, hb = H.cut g2 fp := ⟨_, rfl⟩
  have hbl : hb.le g2 := by rw [hbd]; exact H.cut_le _ _
  have hfb : Fresh hb fp := by rw [hbd]; exact H.cut_fresh _ _
  have hA : IntsAt hb vl ((allW wo).map Int.ofNat) := by rw [hbd]; exact OwnInts.ints (Row.cut hall hlive)
  have hal : (allW wo).length ≤ 4096 := by
    unfold allW
    have := List.length_filter_le (hasW wo) (List.range (64 * wo.length))
    rw [List.length_range] at this; omega
  refine h_loop (fun xs h5 => ∃ (i : Nat) (v5 : Value) (ws5 : List Int) (f5 : List Nat), xs = [.int .i64 (i : Int), v5] ∧ i ≤ (allW wo).length ∧ SetIs h5 v5 ws5 f5 ∧ (∀ y, hasW ws5 y = (hasW ws y || decide (y ∈ (allW wo).take i))) ∧ KeptH g2 h5 fp ∧ (∀ x ∈ f5, x ∈ fp ∨ g2 x = none))
    (fun xs h' => ((allW wo).length - vi (gv xs 0)).toNat) ⟨0, v, ws, fp, rfl, by omega, hs2, (fun y => by simp), KeptH.refl _ _, fun x hx => .inl hx⟩ ?_
  rintro xs h5 J - ⟨i, v5, ws5, f5, rfl, hi, hs5, hw5, hk5, hn5⟩ hJ
  simp only [List.cons_append, List.nil_append]
  have hb5 : hb.le h5 := hk5.le hbl hfb
  refine h_ite (fun hc => ?_) (fun hc => ?_)
  · replace hc : cmpOp .lss (i : Int) ((vlen vl : Nat) : Int) = true := hc
    rw [hil, cmp_lss, decide_eq_true_eq] at hc
    have hil' : i < (allW wo).length := by omega
    have hx : (allW wo)[i]? = some (allW wo)[i] := List.getElem?_eq_getElem hil'
    have hxm : (allW wo)[i] ∈ allW wo := List.getElem_mem _
    generalize (allW wo)[i] = x at hx hxm
    have hx4 : x < 4096 := by have := hasW_big (mem_allW.1 hxm); omega
    have hxI : ((allW wo).map Int.ofNat)[i]? = some (x : Int) := by rw [List.getElem?_map, hx]; rfl
    refine ⟨fun _ => ⟨ge0 i, by show cmpOp .lss (i : Int) ((vlen vl : Nat) : Int) = true; rw [hil]; exact ltN hil', trivial⟩, h_load [.int .i64 (x : Int)] ⟨⟨_, rfl⟩, trivial⟩ (fun _ => (hA.le hb5).read hxI) ?_⟩
    simp only [List.cons_append, List.nil_append]
    refine h_call1 (Q := fun r c h2 => r = .bool (!hasW ws5 x) ∧ ∃ v' ws' fp', c = [v'] ∧ SetIs h2 v' ws' fp' ∧ (∀ y, hasW ws' y = (hasW ws5 y || decide (y = x))) ∧ KeptH h5 h2 f5 ∧ ∀ b ∈ fp', b ∈ f5 ∨ h5 b = none) (s32k (x := x) hs5 hx4) ?_
    rintro _ c h6 ⟨rfl, v6, ws6, f6, rfl, hs6, hw6, hk6, hn6⟩
    refine ⟨⟨hs6.fit, trivial⟩, [.bool (!hasW ws5 x)], ⟨⟨_, rfl⟩, trivial⟩, rfl, ?_⟩
    obtain ⟨q1, q2⟩ := kept_chain hk5 hn5 hk6 hn6
    show J [.int .i64 (intOp .add .i64 (i : Int) 1), v6] h6
    rw [int_add_one (n := 5000) (by omega) (by omega)]
    refine hJ _ _ ⟨i + 1, v6, ws6, f6, rfl, by omega, hs6, fun y => ?_, q1, q2⟩ ?_
    · rw [hw6, hw5, List.take_add_one, hx]
      simp only [Option.toList_some, List.mem_append, List.mem_singleton, Bool.decide_or, Bool.or_assoc]
    · simp only [gv_zero, vi_int]; omega
  · replace hc : cmpOp .lss (i : Int) ((vlen vl : Nat) : Int) = false := hc
    rw [hil, cmp_lss, decide_eq_false_iff_not] at hc
    have hie : i = (allW wo).length := by omega
    have hfin : ∀ y, hasW ws5 y = (hasW ws y || hasW wo y) := fun y => by
      rw [hw5, hie, List.take_length]
      congr 1
      cases e : hasW wo y with
      | true => simpa using mem_allW.2 e
      | false =>
        have : y ∉ allW wo := fun q => by rw [mem_allW.1 q] at e; cases e
        simpa using this
    refine h_call0 (s61 (rowF_words hs5.1) hs5.2.1 hs5.2.2) ?_
    rintro _ g7 ⟨e7, rfl⟩
    have e7' := e7.symm
    subst e7'
    rw [allW_cnt hs5.2.2, show hasW ws5 = orP (hasW ws) (hasW wo) from funext hfin]
    refine ⟨[.int .i64 (cntP (orP (hasW ws) (hasW wo)) : Int)], ⟨⟨_, rfl⟩, trivial⟩, rfl, ?_⟩
    obtain ⟨q1, q2⟩ := kept_chain (f := fp) (f1 := fp) (hl2.kept.mono (by simp)) (fun b hb => .inl hb) hk5 hn5
    refine ⟨_, rfl, ?_, v5, ws5, f5, rfl, hs5, hfin, q1, q2⟩
    show Value.bool (cmpOp .gtr (cntP (orP (hasW ws) (hasW wo)) : Int) (cntP (hasW ws) : Int)) = _
    rw [cmp_gtr]
    congr 1
    exact decide_eq_decide.2 (by omega)
/-! ### Bits taken away -/
theorem bit_andNot {a b : Nat} (ha : a < 18446744073709551616) (hb : b < 18446744073709551616) : ∃ n : Nat, intOp .andNot .u64 (a : Int) (b : Int) = (n : Int) ∧ n < 18446744073709551616 ∧ ∀ y, n.testBit y = (a.testBit y && !b.testBit y) := by
  refine ⟨a &&& (2 ^ 64 - (b + 1)), ?_, Nat.lt_of_le_of_lt Nat.and_le_left ha, fun y => ?_⟩
  · have e : (BitVec.ofInt 64 (a : Int) &&& ~~~ BitVec.ofInt 64 (b : Int)).toNat = a &&& (2 ^ 64 - (b + 1)) := by
      rw [BitVec.toNat_and, BitVec.toNat_not]
      have h1 : ∀ n : Nat, n < 18446744073709551616 → (BitVec.ofInt 64 (n : Int)).toNat = n := fun n hn => by simp [BitVec.toNat_ofInt]; omega
      rw [h1 a ha, h1 b hb]
      congr 1; omega
    show IntKind.u64.wrap ((BitVec.ofInt 64 (a : Int) &&& ~~~ BitVec.ofInt 64 (b : Int)).toNat : Int) = _
    rw [e]
    exact wrap_u64 (Nat.lt_of_le_of_lt Nat.and_le_left ha)
  · rw [Nat.testBit_and, Nat.testBit_two_pow_sub_succ (by omega)]
    by_cases hy : y < 64
    · simp [hy]
    · have : a.testBit y = false := Nat.testBit_lt_two_pow (Nat.lt_of_lt_of_le ha (by
        have : (2 : Nat) ^ 64 ≤ 2 ^ y := Nat.pow_le_pow_right (by omega) (by omega)
        omega))
      simp [this]
/-- A word changed. -/
theorem hasW_word_set {ws : List Int} {i n : Nat} {w : Int} (hx : ws[i]? = some w) (y : Nat) : hasW (ws.set i (n : Int)) y = if y / 64 = i then n.testBit (y % 64) else hasW ws y := by
  have hlt := (List.getElem?_eq_some_iff.1 hx).1
  unfold hasW
  rw [List.getD_eq_getElem?_getD, List.getD_eq_getElem?_getD, List.getElem?_set]
  by_cases e : i = y / 64
  · rw [if_pos e, if_pos hlt, if_pos e.symm]; rfl
  · rw [if_neg e, if_neg fun q => e q.symm]
def ofP (l : List Nat) : SP := fun y => decide (y ∈ l)
end Go.Proofs.YtbgfabppmobpgaaDoor
