/-
  Sets in chunks: joined, made less, cut, made of numbers. Conditions: as each contract says.
-/
import Derived.Test.YtgcaicdmjbkplaaDoorR5T
set_option linter.unusedVariables false
set_option linter.unusedSimpArgs false
namespace Go.Proofs.YtgcaicdmjbkplaaDoor
open Go

theorem s14k {h : H} {v o : Value} {ws wo : List Int} {fp : List Nat} (ht : Tab h) (hs : SetIs h v ws fp) (ho : WordsAt h o wo) (hwo : InW wo) (hlo : wo.length ≤ 64) :
    CallsA Tryd.prog 14 (fun e => [(e 0).ptr 0, .agg #[o]]) [[v]] h (RetC fun r c h' => r = .bool (decide (cntP (hasW ws) < cntP (orP (hasW ws) (hasW wo)))) ∧ ∃ v' ws' fp', c = [v'] ∧ SetIs h' v' ws' fp' ∧ (∀ y, hasW ws' y = (hasW ws y || hasW wo y)) ∧ KeptH h h' fp ∧ ∀ x ∈ fp', x ∈ fp ∨ h x = none) := by
  refine c14k (G := [v, o]) ⟨hs.fit, ho.fit, trivial⟩ ?_
  have hwd := rowF_words hs.1
  refine h_call0 (s33 hwd hs.2.1 hs.2.2) ?_
  rintro _ g1 ⟨e1, rfl⟩
  have e1' := e1.symm
  subst e1'
  rw [allW_cnt hs.2.2]
  refine ⟨[.int .i64 (cntP (hasW ws) : Int)], ⟨⟨_, rfl⟩, trivial⟩, rfl, ?_⟩
  simp only [List.cons_append, List.nil_append]
  refine h_call0 (s23 ht ho hwo hlo) ?_
  rintro vl g2 ⟨hl2, hall⟩
  have hil := hall.ints.len
  rw [List.length_map] at hil
  refine ⟨[vl], ⟨hall.ints.fit, trivial⟩, rfl, ?_⟩
  simp only [List.cons_append, List.nil_append]
  have hlive := hs.live
  have hs2 : SetIs g2 v ws fp := hs.agree (hl2.kept.agree hlive fun b _ => by simp)
  obtain ⟨hb, hbd⟩ : ∃ hb, hb = H.cut g2 fp := ⟨_, rfl⟩
  have hbl : hb.le g2 := by rw [hbd]; exact H.cut_le _ _
  have hfb : Fresh hb fp := by rw [hbd]; exact H.cut_fresh _ _
  have hA : IntsAt hb vl ((allW wo).map Int.ofNat) := by rw [hbd]; exact OwnInts.ints (Row.cut hall hlive)
  have hal : (allW wo).length ≤ 4096 := by
    unfold allW
    have := List.length_filter_le (hasW wo) (List.range (64 * wo.length))
    rw [List.length_range] at this; omega
  refine h_loop (fun xs h5 => ∃ (i : Nat) (v5 : Value) (ws5 : List Int) (f5 : List Nat), xs = [.int .i64 (i : Int), v5] ∧ i ≤ (allW wo).length ∧ SetIs h5 v5 ws5 f5 ∧ (∀ y, hasW ws5 y = (hasW ws y || decide (y ∈ (allW wo).take i))) ∧ KeptH g2 h5 fp ∧ (∀ x ∈ f5, x ∈ fp ∨ g2 x = none))
    (fun xs h' => ((allW wo).length - vi (gv xs 0)).toNat) ⟨0, v, ws, fp, rfl, by omega, hs2, (fun y => by simp), KeptH.refl _ _, fun x hx => .inl hx⟩ ?_
  rintro xs h5 J - ⟨i, v5, ws5, f5, rfl, hi, hs5, hw5, hk5, hn5⟩ hJ
  simp only [List.cons_append, List.nil_append]
  have hb5 : hb.le h5 := hk5.le hbl hfb
  refine h_ite (fun hc => ?_) (fun hc => ?_)
  · replace hc : cmpOp .lss (i : Int) ((vlen vl : Nat) : Int) = true := hc
    rw [hil, cmp_lss, decide_eq_true_eq] at hc
    have hil' : i < (allW wo).length := by omega
    have hx : (allW wo)[i]? = some (allW wo)[i] := List.getElem?_eq_getElem hil'
    have hxm : (allW wo)[i] ∈ allW wo := List.getElem_mem _
    generalize (allW wo)[i] = x at hx hxm
    have hx4 : x < 4096 := by have := hasW_big (mem_allW.1 hxm); omega
    have hxI : ((allW wo).map Int.ofNat)[i]? = some (x : Int) := by rw [List.getElem?_map, hx]; rfl
    refine ⟨fun _ => ⟨ge0 i, by show cmpOp .lss (i : Int) ((vlen vl : Nat) : Int) = true; rw [hil]; exact ltN hil', trivial⟩, h_load [.int .i64 (x : Int)] ⟨⟨_, rfl⟩, trivial⟩ (fun _ => (hA.le hb5).read hxI) ?_⟩
    simp only [List.cons_append, List.nil_append]
    refine h_call1 (Q := fun r c h2 => r = .bool (!hasW ws5 x) ∧ ∃ v' ws' fp', c = [v'] ∧ SetIs h2 v' ws' fp' ∧ (∀ y, hasW ws' y = (hasW ws5 y || decide (y = x))) ∧ KeptH h5 h2 f5 ∧ ∀ b ∈ fp', b ∈ f5 ∨ h5 b = none) (s19k (x := x) hs5 hx4) ?_
    rintro _ c h6 ⟨rfl, v6, ws6, f6, rfl, hs6, hw6, hk6, hn6⟩
    refine ⟨⟨hs6.fit, trivial⟩, [.bool (!hasW ws5 x)], ⟨⟨_, rfl⟩, trivial⟩, rfl, ?_⟩
    obtain ⟨q1, q2⟩ := kept_chain hk5 hn5 hk6 hn6
    show J [.int .i64 (intOp .add .i64 (i : Int) 1), v6] h6
    rw [int_add_one (n := 5000) (by omega) (by omega)]
    refine hJ _ _ ⟨i + 1, v6, ws6, f6, rfl, by omega, hs6, fun y => ?_, q1, q2⟩ ?_
    · rw [hw6, hw5, List.take_add_one, hx]
      simp only [Option.toList_some, List.mem_append, List.mem_singleton, Bool.decide_or, Bool.or_assoc]
    · simp only [gv_zero, vi_int]; omega
  · replace hc : cmpOp .lss (i : Int) ((vlen vl : Nat) : Int) = false := hc
    rw [hil, cmp_lss, decide_eq_false_iff_not] at hc
    have hie : i = (allW wo).length := by omega
    have hfin : ∀ y, hasW ws5 y = (hasW ws y || hasW wo y) := fun y => by
      rw [hw5, hie, List.take_length]
      congr 1
      cases e : hasW wo y with
      | true => simpa using mem_allW.2 e
      | false =>
        have : y ∉ allW wo := fun q => by rw [mem_allW.1 q] at e; cases e
        simpa using this
    refine h_call0 (s33 (rowF_words hs5.1) hs5.2.1 hs5.2.2) ?_
    rintro _ g7 ⟨e7, rfl⟩
    have e7' := e7.symm
    subst e7'
    rw [allW_cnt hs5.2.2, show hasW ws5 = orP (hasW ws) (hasW wo) from funext hfin]
    refine ⟨[.int .i64 (cntP (orP (hasW ws) (hasW wo)) : Int)], ⟨⟨_, rfl⟩, trivial⟩, rfl, ?_⟩
    obtain ⟨q1, q2⟩ := kept_chain (f := fp) (f1 := fp) (hl2.kept.mono (by simp)) (fun b hb => .inl hb) hk5 hn5
    refine ⟨_, rfl, ?_, v5, ws5, f5, rfl, hs5, hfin, q1, q2⟩
    show Value.bool (cmpOp .gtr (cntP (orP (hasW ws) (hasW wo)) : Int) (cntP (hasW ws) : Int)) = _
    rw [cmp_gtr]
    congr 1
    exact decide_eq_decide.2 (by omega)
/-! ### Bits taken away -/
theorem bit_andNot {a b : Nat} (ha : a < 18446744073709551616) (hb : b < 18446744073709551616) : ∃ n : Nat, intOp .andNot .u64 (a : Int) (b : Int) = (n : Int) ∧ n < 18446744073709551616 ∧ ∀ y, n.testBit y = (a.testBit y && !b.testBit y) := by
  refine ⟨a &&& (2 ^ 64 - (b + 1)), ?_, Nat.lt_of_le_of_lt Nat.and_le_left ha, fun y => ?_⟩
  · have e : (BitVec.ofInt 64 (a : Int) &&& ~~~ BitVec.ofInt 64 (b : Int)).toNat = a &&& (2 ^ 64 - (b + 1)) := by
      rw [BitVec.toNat_and, BitVec.toNat_not]
      have h1 : ∀ n : Nat, n < 18446744073709551616 → (BitVec.ofInt 64 (n : Int)).toNat = n := fun n hn => by simp [BitVec.toNat_ofInt]; omega
      rw [h1 a ha, h1 b hb]
      congr 1; omega
    show IntKind.u64.wrap ((BitVec.ofInt 64 (a : Int) &&& ~~~ BitVec.ofInt 64 (b : Int)).toNat : Int) = _
    rw [e]
    exact wrap_u64 (Nat.lt_of_le_of_lt Nat.and_le_left ha)
  · rw [Nat.testBit_and, Nat.testBit_two_pow_sub_succ (by omega)]
    by_cases hy : y < 64
    · simp [hy]
    · have : a.testBit y = false := Nat.testBit_lt_two_pow (Nat.lt_of_lt_of_le ha (by
        have : (2 : Nat) ^ 64 ≤ 2 ^ y := Nat.pow_le_pow_right (by omega) (by omega)
        omega))
      simp [this]
/-- A word changed. -/
theorem hasW_word_set {ws : List Int} {i n : Nat} {w : Int} (hx : ws[i]? = some w) (y : Nat) : hasW (ws.set i (n : Int)) y = if y / 64 = i then n.testBit (y % 64) else hasW ws y := by
  have hlt := (List.getElem?_eq_some_iff.1 hx).1
  unfold hasW
  rw [List.getD_eq_getElem?_getD, List.getD_eq_getElem?_getD, List.getElem?_set]
  by_cases e : i = y / 64
  · rw [if_pos e, if_pos hlt, if_pos e.symm]; rfl
  · rw [if_neg e, if_neg fun q => e q.symm]
theorem s37k {h : H} {v o : Value} {ws wo : List Int} {fp : List Nat} (hs : SetIs h v ws fp) (ho : WordsAt h o wo) (hwo : InW wo) (hd : WordsAt (H.cut h fp) o wo) :
    CallsA Tryd.prog 37 (fun e => [(e 0).ptr 0, .agg #[o]]) [[v]] h (RetC fun r c h' => r = .tuple #[] ∧ ∃ ws', c = [v] ∧ SetIs h' v ws' fp ∧ hasW ws' = lessP (hasW ws) (hasW wo) ∧ KeptH h h' fp) := by
  refine c37k (G := [v, o]) ⟨hs.fit, ho.fit, trivial⟩ ?_
  have hvl := (rowF_words hs.1).len
  have hol := ho.len
  obtain ⟨m, hm⟩ : ∃ m, m = min ws.length wo.length := ⟨_, rfl⟩
  have hmin : ∀ D : List Value, vi ((X.ite (.cmp .lss (.len 1) (.len 0)) (.len 1) (.len 0)).den (v :: o :: D)) = (m : Int) := fun D => by
    simp only [X.den, gv_zero, gv_succ, vi_ite, vi_int, vb_bool, cmp_lss, hvl, hol, decide_eq_true_eq, hm]
    split <;> omega
  refine h_loop (fun xs h' => ∃ (i : Nat) (ws5 : List Int), xs = [.int .i64 (i : Int)] ∧ i ≤ m ∧ SetIs h' v ws5 fp ∧ ws5.length = ws.length ∧ (∀ y, hasW ws5 y = if y / 64 < i then hasW ws y && !hasW wo y else hasW ws y) ∧ KeptH h h' fp)
    (fun xs h' => m - (vi (gv xs 0)).toNat) ⟨0, ws, rfl, Nat.zero_le _, hs, rfl, (fun y => by simp), KeptH.refl _ _⟩ ?_
  rintro xs h5 J - ⟨i, ws5, rfl, hi, hs5, hl5, hw5, hk5⟩ hJ
  simp only [List.cons_append, List.nil_append]
  have hvl5 := (rowF_words hs5.1).len
  have hd5 : WordsAt h5 o wo := SlAt.le u64C_mono (hk5.le (H.cut_le h fp) (H.cut_fresh h fp)) hd
  refine h_ite (fun hc => ?_) (fun hc => ?_)
  · replace hc : cmpOp .lss (i : Int) (vi ((X.ite (.cmp .lss (.len 1) (.len 0)) (.len 1) (.len 0)).den [v, o, .int .i64 (i : Int)])) = true := hc
    rw [hmin, cmp_lss, decide_eq_true_eq] at hc
    have h1 : i < ws5.length := by omega
    have h2 : i < wo.length := by omega
    have hx := List.getElem?_eq_getElem h1
    have hxm := List.getElem_mem h1
    have hy := List.getElem?_eq_getElem h2
    have hym := List.getElem_mem h2
    generalize ws5[i] = w at hx hxm
    generalize wo[i] = u at hy hym
    have hw0 := hs5.2.1 w hxm
    have hu0 := hwo u hym
    obtain ⟨a, rfl⟩ : ∃ a : Nat, w = a := ⟨w.toNat, by omega⟩
    obtain ⟨b, rfl⟩ : ∃ b : Nat, u = b := ⟨u.toNat, by omega⟩
    obtain ⟨n, e1, e2, e3⟩ := bit_andNot (a := a) (b := b) (by omega) (by omega)
    have hx64 : ws5[64 * i / 64]? = some (a : Int) := by rw [show 64 * i / 64 = i by omega]; exact hx
    obtain ⟨u1, u2, u3⟩ := word_set hs5 hx64 e2
    rw [show 64 * i / 64 = i by omega] at u1 u2 u3
    have n0 : cmpOp .geq (i : Int) 0 = true := ge0 i
    have n1 : cmpOp .lss (i : Int) ((vlen v : Nat) : Int) = true := by rw [hvl5]; exact ltN h1
    have n2 : cmpOp .lss (i : Int) ((vlen o : Nat) : Int) = true := by rw [hol]; exact ltN h2
    refine ⟨fun _ => ⟨n0, n1, trivial⟩, h_load [.int .u64 (a : Int)] ⟨⟨_, rfl⟩, trivial⟩ (fun _ => (rowF_words hs5.1).read hx) ⟨fun _ => ⟨n0, n2, trivial⟩, h_load [.int .u64 (b : Int)] ⟨⟨_, rfl⟩, trivial⟩ (fun _ => hd5.read hy) ⟨fun _ => ⟨n0, n1, trivial⟩, ?_⟩⟩⟩
    refine h_store ((vaddr v).add i) [.int .u64 (n : Int)] ?_ ?_ u1 ?_
    · simp only [PE.den, X.den, List.cons_append, List.nil_append, gv_zero, gv_succ, vi_int, Int.toNat_natCast, Nat.mul_one]
    · simp only [SV.denL, SV.den, X.den, List.cons_append, List.nil_append, gv_zero, gv_succ, vi_int, e1]
    show J [.int .i64 (intOp .add .i64 (i : Int) 1)] _
    rw [int_add_one (n := 1000) (by have := hs5.2.2; omega) (by omega)]
    refine hJ _ _ ⟨i + 1, ws5.set i (n : Int), rfl, by omega, u2, by rw [List.length_set]; exact hl5, fun y => ?_, hk5.trans u3⟩ ?_
    · rw [hasW_word_set hx]
      by_cases e : y / 64 = i
      · rw [if_pos e, if_pos (by omega), e3]
        have g1 := hasW_word (b := y % 64) hx (Nat.mod_lt _ (by omega))
        have g2 := hasW_word (b := y % 64) hy (Nat.mod_lt _ (by omega))
        rw [show 64 * i + y % 64 = y by omega, Int.toNat_natCast] at g1 g2
        rw [← g1, ← g2, hw5, if_neg (by omega)]
      · rw [if_neg e, hw5]
        by_cases e2 : y / 64 < i
        · rw [if_pos e2, if_pos (by omega)]
        · rw [if_neg e2, if_neg (by omega)]
    · simp only [gv_zero, vi_int]; omega
  · replace hc : cmpOp .lss (i : Int) (vi ((X.ite (.cmp .lss (.len 1) (.len 0)) (.len 1) (.len 0)).den [v, o, .int .i64 (i : Int)])) = false := hc
    rw [hmin, cmp_lss, decide_eq_false_iff_not] at hc
    refine ⟨_, rfl, rfl, ws5, rfl, hs5, ?_, hk5⟩
    funext y
    rw [hw5]
    unfold lessP
    by_cases e : y / 64 < i
    · rw [if_pos e]
    · rw [if_neg e]
      have hor : ws.length ≤ y / 64 ∨ wo.length ≤ y / 64 := by omega
      rcases hor with q | q
      · have : hasW ws y = false := by
          cases e2 : hasW ws y with
          | false => rfl
          | true => have := hasW_big e2; omega
        simp [this]
      · have : hasW wo y = false := by
          cases e2 : hasW wo y with
          | false => rfl
          | true => have := hasW_big e2; omega
        simp [this]
/-! ### A set of numbers -/
def ofP (l : List Nat) : SP := fun y => decide (y ∈ l)
theorem s45g {h : H} {v : Value} {l : List Nat} (hv : IntsAt h v (l.map Int.ofNat)) (hb : ∀ x ∈ l, x < 4096) (hl : l.length ≤ 100000) :
    CallsA Tryd.prog 45 (fun _ => [v]) [] h (Ret fun r h' => h.le h' ∧ ∃ u ws fp, r = .agg #[u] ∧ SetIs h' u ws fp ∧ hasW ws = ofP l ∧ Fresh h fp) := by
  refine c45 (G := [v]) ⟨hv.fit, trivial⟩ ?_
  have hvl := hv.len
  rw [List.length_map] at hvl
  refine h_loop (fun xs h' => ∃ (i : Nat) (u : Value) (ws : List Int) (fp : List Nat), xs = [.int .i64 (i : Int), u] ∧ i ≤ l.length ∧ SetIs h' u ws fp ∧ Fresh h fp ∧ h.le h' ∧ ∀ y, hasW ws y = decide (y ∈ l.take i))
    (fun xs h' => l.length - (vi (gv xs 0)).toNat) ⟨0, .slice none 0 0, [], [], rfl, Nat.zero_le _, ⟨.inl ⟨rfl, rfl, rfl⟩, (fun w hw => by cases hw), by simp⟩, (fun b hb => by cases hb), H.le_refl _, (fun y => by simp [hasW])⟩ ?_
  rintro xs h' J - ⟨i, u, ws, fp, rfl, hi, hs, hf, hle, hw⟩ hJ
  simp only [List.cons_append, List.nil_append]
  refine h_ite (fun hc => ?_) (fun hc => ?_)
  · replace hc : cmpOp .lss (i : Int) ((vlen v : Nat) : Int) = true := hc
    have hc' := hc
    rw [hvl, cmp_lss, decide_eq_true_eq] at hc
    have hil : i < l.length := by omega
    have hx := List.getElem?_eq_getElem hil
    have hxm := List.getElem_mem hil
    generalize l[i] = x at hx hxm
    have hxI : (l.map Int.ofNat)[i]? = some (x : Int) := by rw [List.getElem?_map, hx]; rfl
    refine ⟨fun _ => ⟨ge0 i, hc', trivial⟩, h_load [.int .i64 (x : Int)] ⟨⟨_, rfl⟩, trivial⟩ (fun _ => (hv.le hle).read hxI) ?_⟩
    simp only [List.cons_append, List.nil_append]
    refine h_call1 (Q := fun r c h2 => r = .bool (!hasW ws x) ∧ ∃ v' ws' fp', c = [v'] ∧ SetIs h2 v' ws' fp' ∧ (∀ y, hasW ws' y = (hasW ws y || decide (y = x))) ∧ KeptH h' h2 fp ∧ ∀ b ∈ fp', b ∈ fp ∨ h' b = none) (s19k (x := x) hs (hb x hxm)) ?_
    rintro _ c h2 ⟨rfl, v', ws', fp', rfl, hs', hw', hk, hn⟩
    refine ⟨⟨hs'.fit, trivial⟩, [.bool (!hasW ws x)], ⟨⟨_, rfl⟩, trivial⟩, rfl, ?_⟩
    show J [.int .i64 (intOp .add .i64 (i : Int) 1), v'] h2
    rw [int_add_one (n := 1000000) (by omega) (by omega)]
    refine hJ _ _ ⟨i + 1, v', ws', fp', rfl, by omega, hs', fun b hb => (hn b hb).elim (hf b) (H.le_none hle), hk.le hle hf, fun y => ?_⟩ ?_
    · rw [hw', hw, List.take_add_one, hx]
      simp only [Option.toList_some, List.mem_append, List.mem_singleton, Bool.decide_or]
    · simp only [gv_zero, vi_int]; omega
  · replace hc : cmpOp .lss (i : Int) ((vlen v : Nat) : Int) = false := hc
    rw [hvl, cmp_lss, decide_eq_false_iff_not] at hc
    have : i = l.length := by omega
    subst this
    exact ⟨rfl, hle, u, ws, fp, rfl, hs, by funext y; rw [hw, List.take_length]; rfl, hf⟩
end Go.Proofs.YtgcaicdmjbkplaaDoor
