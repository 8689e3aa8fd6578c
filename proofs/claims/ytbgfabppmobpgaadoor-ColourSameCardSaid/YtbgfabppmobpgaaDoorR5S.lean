/-
  Sets in full: the lowest bit, all numbers rising, copies, unions, comparisons. Conditions: as each contract says (the table of the lowest bit is at hand).
-/
import Derived.Test.YtbgfabppmobpgaaDoorR4W
set_option linter.unusedVariables false
set_option linter.unusedSimpArgs false
namespace Go.Proofs.YtbgfabppmobpgaaDoor
open Go

def tabL : List Int := [0, 1, 56, 2, 57, 49, 28, 3, 61, 58, 42, 50, 38, 29, 17, 4, 62, 47, 59, 36, 45, 43, 51, 22, 53, 39, 33, 30, 24, 18, 12, 5, 63, 55, 48, 27, 60, 41, 37, 16, 46, 35, 44, 21, 52, 32, 23, 11, 54, 26, 40, 15, 34, 20, 31, 10, 25, 14, 19, 9, 13, 8, 7, 6]
/-- The table is at hand. -/
def Tab (h : H) : Prop := Reads h ⟨0, 0, none⟩ (tabL.map (.int .u8))
theorem Tab.le {h h' : H} (hl : h.le h') (t : Tab h) : Tab h' := Reads.le hl t
/-! ### The lowest bit -/
theorem odd_part : ∀ {w : Nat}, w ≠ 0 → ∃ k m, w = 2 ^ k * (2 * m + 1) := by
  intro w
  induction w using Nat.strongRecOn with
  | _ w ih =>
    intro hw
    by_cases h : w % 2 = 1
    · exact ⟨0, w / 2, by omega⟩
    · obtain ⟨k, m, e⟩ := ih (w / 2) (by omega) (by omega)
      refine ⟨k + 1, m, ?_⟩
      rw [Nat.pow_succ, Nat.mul_comm (2 ^ k) 2, Nat.mul_assoc, ← e]; omega
theorem low_testBit (k m y : Nat) : (2 ^ k * (2 * m + 1)).testBit y = if y < k then false else if y = k then true else m.testBit (y - (k + 1)) := by
  have e : 2 ^ k * (2 * m + 1) = 2 ^ (k + 1) * m + 2 ^ k := by rw [Nat.pow_succ, Nat.mul_add, Nat.mul_one, Nat.mul_assoc]
  rw [e, Nat.testBit_two_pow_mul_add m (Nat.pow_lt_pow_right (by omega) (by omega)), Nat.testBit_two_pow]
  by_cases h1 : y < k
  · rw [if_pos (by omega), if_pos h1]; simp; omega
  · rw [if_neg h1]
    by_cases h2 : y = k
    · rw [if_pos (by omega), if_pos h2]; simp [h2]
    · rw [if_neg (by omega), if_neg h2]
theorem low_pred (k m y : Nat) : (2 ^ k * (2 * m + 1) - 1).testBit y = if y < k then true else if y = k then false else m.testBit (y - (k + 1)) := by
  have hp : 0 < 2 ^ k := Nat.two_pow_pos k
  have e : 2 ^ k * (2 * m + 1) - 1 = 2 ^ (k + 1) * m + (2 ^ k - 1) := by
    have : 2 ^ k * (2 * m + 1) = 2 ^ (k + 1) * m + 2 ^ k := by rw [Nat.pow_succ, Nat.mul_add, Nat.mul_one, Nat.mul_assoc]
    omega
  have hlt : 2 ^ k - 1 < 2 ^ (k + 1) := by rw [Nat.pow_succ]; omega
  rw [e, Nat.testBit_two_pow_mul_add m hlt, Nat.testBit_two_pow_sub_one]
  by_cases h1 : y < k
  · rw [if_pos (by omega), if_pos h1]; simp [h1]
  · rw [if_neg h1]
    by_cases h2 : y = k
    · rw [if_pos (by omega), if_pos h2]; simp [h2]
    · rw [if_neg (by omega), if_neg h2]
theorem low_and_pred (k m : Nat) : (2 ^ k * (2 * m + 1)) &&& (2 ^ k * (2 * m + 1) - 1) = 2 ^ (k + 1) * m := by
  apply Nat.eq_of_testBit_eq
  intro y
  rw [Nat.testBit_and, low_testBit, low_pred, Nat.testBit_two_pow_mul]
  by_cases h1 : y < k
  · have : ¬ y ≥ k + 1 := by omega
    simp [h1, this]
  · by_cases h2 : y = k
    · have hd : decide (y ≥ k + 1) = false := by simp; omega
      rw [hd, if_neg h1, if_pos h2, if_neg h1, if_pos h2]; rfl
    · have : y ≥ k + 1 := by omega
      simp [h1, h2, this]
theorem low_and_neg {k m : Nat} (hw : 2 ^ k * (2 * m + 1) < 2 ^ 64) : (2 ^ k * (2 * m + 1)) &&& (2 ^ 64 - 2 ^ k * (2 * m + 1)) = 2 ^ k := by
  have hpos : 0 < 2 ^ k * (2 * m + 1) := Nat.mul_pos (Nat.two_pow_pos k) (by omega)
  have hk : k < 64 := by
    have h1 : 2 ^ k ≤ 2 ^ k * (2 * m + 1) := Nat.le_mul_of_pos_right _ (by omega)
    exact (Nat.pow_lt_pow_iff_right (by decide : 1 < 2)).1 (by omega)
  apply Nat.eq_of_testBit_eq
  intro y
  have hs := Nat.testBit_two_pow_sub_succ (x := 2 ^ k * (2 * m + 1) - 1) (n := 64) (by omega) y
  rw [show 2 ^ k * (2 * m + 1) - 1 + 1 = 2 ^ k * (2 * m + 1) by omega] at hs
  rw [Nat.testBit_and, hs, low_testBit, low_pred, Nat.testBit_two_pow]
  by_cases h1 : y < k
  · have : ¬ k = y := by omega
    simp [h1, this]
  · by_cases h2 : y = k
    · subst h2; simp [hk]
    · have h3 : ¬ k = y := fun e => h2 e.symm
      simp only [h1, h2, h3, if_false]
      cases m.testBit (y - (k + 1)) <;> simp
theorem bit_and {a b : Nat} (ha : a < 18446744073709551616) (hb : b < 18446744073709551616) : intOp .and .u64 (a : Int) (b : Int) = ((a &&& b : Nat) : Int) := by
  have hlt : a &&& b < 2 ^ 64 := Nat.and_lt_two_pow a hb
  have e : (BitVec.ofInt 64 (a : Int) &&& BitVec.ofInt 64 (b : Int)).toNat = a &&& b := by
    rw [BitVec.toNat_and]
    have h1 : ∀ n : Nat, n < 18446744073709551616 → (BitVec.ofInt 64 (n : Int)).toNat = n := fun n hn => by simp [BitVec.toNat_ofInt]; omega
    rw [h1 a ha, h1 b hb]
  show IntKind.u64.wrap ((BitVec.ofInt 64 (a : Int) &&& BitVec.ofInt 64 (b : Int)).toNat : Int) = _
  rw [e]
  exact wrap_u64 hlt
theorem wrap_u64m (n : Nat) : IntKind.u64.wrap (n : Int) = ((n % 18446744073709551616 : Nat) : Int) := by
  simp [IntKind.wrap, IntKind.bits, IntKind.signed]
theorem wrap_u64n {w : Nat} (h0 : 0 < w) (h : w < 18446744073709551616) : IntKind.u64.wrap (0 - (w : Int)) = ((18446744073709551616 - w : Nat) : Int) := by
  simp only [IntKind.wrap, IntKind.bits, IntKind.signed]
  have : (2 : Int) ^ 64 = 18446744073709551616 := by decide
  simp only [Bool.false_and, Bool.false_eq_true, if_false, this]
  omega
theorem div58 (x : Nat) : x % 18446744073709551616 / 288230376151711744 < 64 := by
  have := Nat.mod_lt x (by decide : 0 < 18446744073709551616)
  omega
theorem tab_at : ∀ k : _root_.Fin 64, tabL[(2 ^ k.val * 285870213051353865) % 18446744073709551616 / 288230376151711744]? = some (k.val : Int) := by decide
theorem s60 {h : H} {k m : Nat} (ht : Tab h) (hw : 2 ^ k * (2 * m + 1) < 18446744073709551616) :
    CallsA Tryd.prog 60 (fun _ => [.int .u64 ((2 ^ k * (2 * m + 1) : Nat) : Int)]) [] h (Ret fun r h' => h' = h ∧ r = .int .i64 (k : Int)) := by
  have hpos : 0 < 2 ^ k * (2 * m + 1) := Nat.mul_pos (Nat.two_pow_pos k) (by omega)
  have hk : k < 64 := by
    have h1 : 2 ^ k ≤ 2 ^ k * (2 * m + 1) := Nat.le_mul_of_pos_right _ (by omega)
    exact (Nat.pow_lt_pow_iff_right (by decide : 1 < 2)).1 (by omega)
  have ha := low_and_neg (k := k) (m := m) hw
  generalize 2 ^ k * (2 * m + 1) = w at *
  refine c60 (G := [.int .u64 (w : Int)]) ⟨⟨_, rfl⟩, trivial⟩ ?_
  refine h_ite (fun hc => ?_) (fun hc => ?_)
  · simp only [X.den, gv_zero, vi_int, vb_bool, cmp_eql, decide_eq_true_eq] at hc; omega
  have hp : 2 ^ k < 18446744073709551616 := by
    have : 2 ^ k < 2 ^ 64 := Nat.pow_lt_pow_right (by omega) hk
    exact this
  rw [show (2 : Nat) ^ 64 = 18446744073709551616 by decide] at ha
  have e0 : intOp .sub .u64 0 (w : Int) = ((18446744073709551616 - w : Nat) : Int) := wrap_u64n hpos hw
  have e1 : intOp .and .u64 (w : Int) (intOp .sub .u64 0 (w : Int)) = ((2 ^ k : Nat) : Int) := by
    rw [e0, bit_and hw (by omega), ha]
  obtain ⟨j, hj⟩ : ∃ j, j = (2 ^ k * 285870213051353865) % 18446744073709551616 / 288230376151711744 := ⟨_, rfl⟩
  have hj64 : j < 64 := by rw [hj]; exact div58 _
  have e2 : intOp .shr .u64 (intOp .mul .u64 (intOp .and .u64 (w : Int) (intOp .sub .u64 0 (w : Int))) 285870213051353865) 58 = (j : Int) := by
    rw [e1]
    have : intOp .mul .u64 ((2 ^ k : Nat) : Int) 285870213051353865 = (((2 ^ k * 285870213051353865) % 18446744073709551616 : Nat) : Int) := by
      simp only [intOp]
      rw [show ((2 ^ k : Nat) : Int) * 285870213051353865 = ((2 ^ k * 285870213051353865 : Nat) : Int) by generalize 2 ^ k = z; omega, wrap_u64m]
    rw [this]
    have := bit_shr (w := (2 ^ k * 285870213051353865) % 18446744073709551616) (s := 58) (by omega)
    rw [Nat.shiftRight_eq_div_pow, show (2 : Nat) ^ 58 = 288230376151711744 by decide] at this
    rw [hj]; exact this
  have htab := tab_at ⟨k, hk⟩
  simp only at htab
  rw [← hj] at htab
  refine ⟨fun _ => ?_, h_load [.int .u8 (k : Int)] ⟨⟨_, rfl⟩, trivial⟩ (fun _ => ?_) ⟨rfl, rfl, ?_⟩⟩
  · refine ⟨?_, ?_, trivial⟩
    · simp only [X.den, gv_zero, vi_int, vb_bool, e2]; exact ge0 j
    · simp only [X.den, gv_zero, vi_int, vb_bool, e2]; rw [cmp_lss, decide_eq_true_eq]; exact Int.ofNat_lt.2 hj64
  · simp only [PE.den, X.den, gv_zero, vi_int, e2, Int.toNat_natCast, Nat.mul_one]
    intro i u hi
    have hi' : i = 0 ∧ u = .int .u8 (k : Int) := by
      cases i with
      | zero => simp at hi; exact ⟨rfl, hi.symm⟩
      | succ i => simp at hi
    obtain ⟨rfl, rfl⟩ := hi'
    have := ht j (.int .u8 (k : Int)) (by rw [List.getElem?_map, htab]; rfl)
    rw [add_add]; exact this
  · show Value.int .i64 (IntKind.i64.wrap (k : Int)) = _
    rw [wrap_i64 (by omega) (by omega)]
/-! ### All, rising -/
def allW (ws : List Int) : List Nat := (List.range (64 * ws.length)).filter (hasW ws)
theorem filter_skip {p : Nat → Bool} {a b : Nat} (hab : a ≤ b) (h : ∀ y, a ≤ y → y < b → p y = false) : (List.range b).filter p = (List.range a).filter p := by
  induction b with
  | zero => rw [show a = 0 by omega]
  | succ b ih =>
    by_cases e : a = b + 1
    · rw [e]
    · rw [List.range_succ, List.filter_append, ih (by omega) fun y h1 h2 => h y h1 (by omega)]
      have : p b = false := h b (by omega) (by omega)
      simp [this]
theorem filter_hit {p : Nat → Bool} {a b : Nat} (hab : a ≤ b) (h : ∀ y, a ≤ y → y < b → p y = false) (hb : p b = true) : (List.range (b + 1)).filter p = (List.range a).filter p ++ [b] := by
  rw [List.range_succ, List.filter_append, filter_skip hab h]
  simp [hb]
theorem hasW_word {ws : List Int} {i : Nat} {x : Int} (hx : ws[i]? = some x) {b : Nat} (hb : b < 64) : hasW ws (64 * i + b) = x.toNat.testBit b := by
  unfold hasW
  rw [show (64 * i + b) / 64 = i by omega, show (64 * i + b) % 64 = b by omega, List.getD_eq_getElem?_getD, hx]; rfl
theorem s45 {h : H} {v : Value} {ws : List Int} (ht : Tab h) (hv : WordsAt h v ws) (hw : InW ws) (hl : ws.length ≤ 64) :
    CallsA Tryd.prog 45 (fun _ => [.agg #[v]]) [] h (Ret fun r h' => h.le h' ∧ OwnInts h h' r ((allW ws).map Int.ofNat)) := by
  refine c45 (G := [v]) ⟨hv.fit, trivial⟩ ?_
  have hvl := hv.len
  refine h_loop (fun xs h' => ∃ (i : Nat) (u : Value), xs = [u, .int .i64 (i : Int)] ∧ i ≤ ws.length ∧ OwnInts h h' u (((List.range (64 * i)).filter (hasW ws)).map Int.ofNat) ∧ h.le h')
    (fun xs h' => (ws.length - vi (gv xs 1)).toNat) ⟨0, .slice none 0 0, rfl, by omega, .inl ⟨rfl, rfl⟩, H.le_refl _⟩ ?_
  rintro xs h' J - ⟨i, u, rfl, hi, hu, hle⟩ hJ
  simp only [List.cons_append, List.nil_append]
  refine h_ite (fun hc => ?_) (fun hc => ?_)
  · replace hc : cmpOp .lss (i : Int) ((vlen v : Nat) : Int) = true := hc
    rw [hvl, cmp_lss, decide_eq_true_eq] at hc
    have hil : i < ws.length := by omega
    have hx : ws[i]? = some ws[i] := List.getElem?_eq_getElem hil
    have hxm : ws[i] ∈ ws := List.getElem_mem _
    generalize ws[i] = x at hx hxm
    have hx0 := hw x hxm
    obtain ⟨n, rfl⟩ : ∃ n : Nat, x = n := ⟨x.toNat, by omega⟩
    have hwd : ∀ b, b < 64 → hasW ws (64 * i + b) = n.testBit b := fun b hb => by rw [hasW_word hx hb, Int.toNat_natCast]
    refine ⟨fun _ => ⟨ge0 i, by show cmpOp .lss (i : Int) ((vlen v : Nat) : Int) = true; rw [hvl]; exact ltN hil, trivial⟩, h_load [.int .u64 (n : Int)] ⟨⟨_, rfl⟩, trivial⟩ (fun _ => WordsAt.read (SlAt.le u64C_mono hle hv) hx) ?_⟩
    simp only [List.cons_append, List.nil_append]
    refine h_loop (fun xs h5 => ∃ (c p : Nat) (u : Value), xs = [u, .int .u64 (c : Int)] ∧ p ≤ 64 ∧ c < 18446744073709551616 ∧ (∀ y, c.testBit y = (n.testBit y && decide (p ≤ y))) ∧ OwnInts h h5 u (((List.range (64 * i + p)).filter (hasW ws)).map Int.ofNat) ∧ h.le h5)
      (fun xs h' => (vi (gv xs 1)).toNat) ⟨n, 0, u, rfl, by omega, by omega, (fun y => by simp), by simpa using hu, hle⟩ ?_
    rintro xs h5 J5 - ⟨c, p, u5, rfl, hp, hcl, hcb, hu5, hle5⟩ hJ5
    simp only [List.cons_append, List.nil_append]
    have hul := hu5.ints.len
    have hfl := List.length_filter_le (hasW ws) (List.range (64 * i + p))
    rw [List.length_range] at hfl
    rw [List.length_map] at hul
    refine h_ite (fun hc5 => ?_) (fun hc5 => ?_)
    · replace hc5 : cmpOp .neq (c : Int) 0 = true := hc5
      rw [cmp_neq, decide_eq_true_eq] at hc5
      obtain ⟨k, m, e⟩ := odd_part (w := c) (by omega)
      have hck : c.testBit k = true := by rw [e, low_testBit]; simp
      have hclow : ∀ y, y < k → c.testBit y = false := fun y hy => by rw [e, low_testBit, if_pos hy]
      have hnk : n.testBit k = true ∧ p ≤ k := by rw [hcb] at hck; simpa using hck
      have hk64 : k < 64 := by
        have h1 : 2 ^ k ≤ c := by rw [e]; exact Nat.le_mul_of_pos_right _ (by omega)
        exact (Nat.pow_lt_pow_iff_right (by decide : 1 < 2)).1 (by omega)
      subst e
      refine h_call0 (s60 (ht.le hle5) hcl) ?_
      rintro _ g6 ⟨e6, rfl⟩
      have e6' := e6.symm
      subst e6'
      refine ⟨[.int .i64 (k : Int)], ⟨⟨_, rfl⟩, trivial⟩, rfl, ?_⟩
      simp only [List.cons_append, List.nil_append]
      have hval : intOp .add .i64 (intOp .mul .i64 64 (i : Int)) (k : Int) = ((64 * i + k : Nat) : Int) := by
        simp only [intOp]
        rw [wrap_i64 (n := 64 * (i : Int)) (by omega) (by omega), wrap_i64 (by omega) (by omega)]; push_cast; rfl
      refine ⟨[natV (64 * i + k)], 1, ⟨?_, rfl⟩, ?_⟩
      · show [natV (64 * i + k)] = [Value.int .i64 (intOp .add .i64 (intOp .mul .i64 64 (i : Int)) (k : Int))]
        rw [hval]
      show AppSpec _ _ _ _ _ u5 _ _ _
      refine app_row hu5 hle5 rfl zero_int (by rw [hul]; omega) fun u' h7 k1 k2 k3 k4 k5 => ?_
      have hsub : intOp .sub .u64 ((2 ^ k * (2 * m + 1) : Nat) : Int) 1 = ((2 ^ k * (2 * m + 1) - 1 : Nat) : Int) := by
        have hpos : 0 < 2 ^ k * (2 * m + 1) := Nat.mul_pos (Nat.two_pow_pos k) (by omega)
        simp only [intOp]
        rw [show ((2 ^ k * (2 * m + 1) : Nat) : Int) - 1 = ((2 ^ k * (2 * m + 1) - 1 : Nat) : Int) by omega]
        exact wrap_u64 (by omega)
      show J5 [u', .int .u64 (intOp .and .u64 ((2 ^ k * (2 * m + 1) : Nat) : Int) (intOp .sub .u64 ((2 ^ k * (2 * m + 1) : Nat) : Int) 1))] h7
      have hlt : 2 ^ (k + 1) * m < 2 ^ k * (2 * m + 1) := by
        rw [Nat.pow_succ, Nat.mul_add, Nat.mul_one, Nat.mul_assoc]
        have := Nat.two_pow_pos k
        omega
      rw [hsub, bit_and hcl (by omega), low_and_pred]
      have hfalse : ∀ y, 64 * i + p ≤ y → y < 64 * i + k → hasW ws y = false := fun y h1 h2 => by
        have := hclow (y - 64 * i) (by omega)
        rw [hcb] at this
        have hd : decide (p ≤ y - 64 * i) = true := by simp; omega
        rw [hd, Bool.and_true] at this
        have e := hwd (y - 64 * i) (by omega)
        rw [show 64 * i + (y - 64 * i) = y by omega] at e
        rw [e]; exact this
      refine hJ5 _ _ ⟨2 ^ (k + 1) * m, k + 1, u', rfl, by omega, by omega, fun y => ?_, ?_, k3⟩ ?_
      · rw [Nat.testBit_two_pow_mul]
        have e1 := hcb y
        rw [low_testBit] at e1
        by_cases h1 : k + 1 ≤ y
        · have h2 : p ≤ y := by omega
          rw [if_neg (by omega), if_neg (by omega)] at e1
          simp [h1, h2] at e1 ⊢
          exact e1
        · simp [h1]
      · have := filter_hit (p := hasW ws) (a := 64 * i + p) (b := 64 * i + k) (by omega) hfalse (by rw [hwd k hk64]; exact hnk.1)
        rw [show 64 * i + (k + 1) = 64 * i + k + 1 by omega, this, List.map_append]
        unfold OwnInts; rw [List.map_append]; exact k1
      · simp only [gv_zero, gv_succ, vi_int, Int.toNat_natCast]; exact hlt
    · replace hc5 : cmpOp .neq (c : Int) 0 = false := hc5
      rw [cmp_neq, decide_eq_false_iff_not] at hc5
      have hc0 : c = 0 := by omega
      subst hc0
      have hfalse : ∀ y, 64 * i + p ≤ y → y < 64 * (i + 1) → hasW ws y = false := fun y h1 h2 => by
        have := hcb (y - 64 * i)
        rw [Nat.zero_testBit] at this
        have hd : decide (p ≤ y - 64 * i) = true := by simp; omega
        rw [hd, Bool.and_true] at this
        have e := hwd (y - 64 * i) (by omega)
        rw [show 64 * i + (y - 64 * i) = y by omega] at e
        rw [e]; exact this.symm
      show J [u5, .int .i64 (intOp .add .i64 (i : Int) 1)] h5
      rw [int_add_one (n := 1000) (by omega) (by omega)]
      refine hJ _ _ ⟨i + 1, u5, rfl, by omega, ?_, hle5⟩ ?_
      · rw [filter_skip (a := 64 * i + p) (by omega) hfalse]; exact hu5
      · simp only [gv_zero, gv_succ, vi_int]; omega
  · replace hc : cmpOp .lss (i : Int) ((vlen v : Nat) : Int) = false := hc
    rw [hvl, cmp_lss, decide_eq_false_iff_not] at hc
    have : i = ws.length := by omega
    subst this
    exact ⟨rfl, hle, hu⟩
theorem hasW_big {ws : List Int} {x : Nat} (h : hasW ws x = true) : x < 64 * ws.length := by
  unfold hasW at h
  by_cases hx : x / 64 < ws.length
  · omega
  · rw [List.getD_eq_getElem?_getD, List.getElem?_eq_none (by omega)] at h
    simp at h
theorem mem_allW {ws : List Int} {x : Nat} : x ∈ allW ws ↔ hasW ws x = true := by
  unfold allW
  rw [List.mem_filter, List.mem_range]
  exact ⟨fun q => q.2, fun q => ⟨hasW_big q, q⟩⟩
theorem allW_eq {ws vs : List Int} (h : ∀ x, hasW ws x = hasW vs x) : allW ws = allW vs := by
  have hp : hasW ws = hasW vs := funext h
  unfold allW
  rw [hp]
  rcases Nat.le_total ws.length vs.length with q | q
  · refine (filter_skip (a := 64 * ws.length) (b := 64 * vs.length) (by omega) fun y h1 h2 => ?_).symm
    cases e : hasW vs y with
    | false => rfl
    | true => rw [← hp] at e; have := hasW_big e; omega
  · refine filter_skip (a := 64 * vs.length) (b := 64 * ws.length) (by omega) fun y h1 h2 => ?_
    cases e : hasW vs y with
    | false => rfl
    | true => have := hasW_big e; omega
/-! ### Two rows compared -/
theorem WordsAt.all {h : H} {v : Value} {l : List Int} (H : WordsAt h v l) : Reads h (vaddr v) (l.map (.int .u64)) := by
  intro i w hi
  rw [List.getElem?_map, Option.map_eq_some_iff] at hi
  obtain ⟨x, hx, rfl⟩ := hi
  have := H.read hx 0 _ rfl
  rw [add_add] at this; simpa using this
theorem s63 {h : H} {v : Value} {ws : List Int} (hv : WordsAt h v ws) (hw : InW ws) (hl : ws.length ≤ 64) :
    CallsA Tryd.prog 63 (fun _ => [v]) [] h (Ret fun r h' => KeptH h h' [] ∧ ∃ fp, SetIs h' r ws fp ∧ Fresh h fp) := by
  have hvl := hv.len
  refine c63 (G := [v]) ⟨hv.fit, trivial⟩ ?_
  refine h_ite (fun hc => ?_) (fun hc => ?_)
  · replace hc : vnil v = true := hc
    have hw0 : ws = [] := by
      obtain ⟨a, n, c, rfl, h2, h3⟩ := hv.fit
      cases a with
      | none => have := (h2 rfl).1; simp only [vlen_sl] at hvl; exact List.eq_nil_of_length_eq_zero (by omega)
      | some a => cases hc
    subst hw0
    exact ⟨rfl, KeptH.refl _ _, [], ⟨.inl ⟨rfl, rfl, rfl⟩, hw, hl⟩, fun b hb => by cases hb⟩
  · intro b hb
    have r0 : RowF (h.put b (.cells ([] : List Value).toArray 79 (0, 0))) 79 1 (.slice (some ⟨b, 0, none⟩) 0 0) [] [b] := RowF.new (r := []) (c := 0) rfl rfl (Nat.le_refl _)
    have k0 : KeptH h (h.put b (.cells ([] : List Value).toArray 79 (0, 0))) [] := KeptH.put hb _
    have hv' : WordsAt (h.put b (.cells ([] : List Value).toArray 79 (0, 0))) v ws := SlAt.le u64C_mono (H.le_put hb) hv
    show holds _ _ _ [v, .slice (some ⟨b, 0, none⟩) 0 0] [] (h.put b (.cells ([] : List Value).toArray 79 (0, 0)))
    generalize h.put b (.cells ([] : List Value).toArray 79 (0, 0)) = g1 at r0 k0 hv'
    have hall := WordsAt.all hv'
    obtain ⟨a, n, c, rfl, q2, q3⟩ := hv.fit
    simp only [vlen_sl] at hvl
    refine ⟨ws.map (.int .u64), ws.length, ⟨by simp, (fun z hz => ?_), ?_⟩, ?_⟩
    · obtain ⟨x, _, rfl⟩ := List.mem_map.1 hz; rfl
    · cases a with
      | none => exact ⟨hvl.symm, (q2 rfl).1⟩
      | some a => exact ⟨hvl.symm, hall⟩
    show AppSpec _ _ _ _ _ (.slice (some ⟨b, 0, none⟩) 0 0) _ _ _
    refine app_rowF r0 (by simp) (by rw [zero_u64]; rfl) (by simp only [vlen_sl]; omega) fun v2 h2 f2 m1 m2 m3 m4 => ?_
    have hf2 : Fresh h f2 := fun x hx => by
      rcases m4 with rfl | ⟨b', rfl, hb'⟩
      · rw [List.mem_singleton] at hx; subst hx; exact hb
      · rw [List.mem_singleton] at hx; subst hx; exact H.le_none k0.le_nil hb'
    exact ⟨rfl, KeptH.trans_nil k0 m3 (fun x hx => by rw [List.mem_singleton] at hx; subst hx; exact hb), f2, ⟨m1, hw, hl⟩, hf2⟩
theorem s51 {h : H} {v : Value} {ws : List Int} (hv : WordsAt h v ws) (hw : InW ws) (hl : ws.length ≤ 64) :
    CallsA Tryd.prog 51 (fun _ => [.agg #[v]]) [] h (Ret fun r h' => KeptH h h' [] ∧ ∃ v' fp, r = .agg #[v'] ∧ SetIs h' v' ws fp ∧ Fresh h fp) := by
  refine c51 (G := [v]) ⟨hv.fit, trivial⟩ ?_
  refine h_call0 (s63 hv hw hl) ?_
  rintro r h' ⟨hk, fp, hs, hf⟩
  exact ⟨[r], ⟨hs.fit, trivial⟩, rfl, rfl, hk, r, fp, rfl, hs, hf⟩
/-! ### Bits counted -/
def popK (k w : Nat) : Nat := ((List.range (8 * k)).filter fun y => w.testBit y).length
def pop8 (r : Nat) : Nat := popK 1 r
theorem popK_succ (k q r : Nat) (hr : r < 256) : popK (k + 1) (256 * q + r) = pop8 r + popK k q := by
  unfold pop8 popK
  have e : List.range (8 * (k + 1)) = List.range 8 ++ (List.range (8 * k)).map (8 + ·) := by
    rw [show 8 * (k + 1) = 8 + 8 * k by omega, List.range_add]
  rw [e, List.filter_append, List.length_append, List.filter_map, List.length_map]
  have t : ∀ y, (256 * q + r).testBit y = if y < 8 then r.testBit y else q.testBit (y - 8) := fun y => by
    have := Nat.testBit_two_pow_mul_add q (i := 8) (b := r) (by simpa using hr) y
    simpa using this
  congr 2
  · apply List.filter_congr
    intro y hy
    rw [t, if_pos (List.mem_range.1 hy)]
  · apply List.filter_congr
    intro y hy
    show (256 * q + r).testBit (8 + y) = _
    rw [t, if_neg (by omega), show 8 + y - 8 = y by omega]
theorem and_split (s q r M c : Nat) (hs : s ≤ 8) (hr : r < 256) (hc : c < 2 ^ (8 - s)) : ((256 * q + r) >>> s) &&& (256 * M + c) = 256 * ((q >>> s) &&& M) + ((r >>> s) &&& c) := by
  have hc8 : c < 2 ^ 8 := Nat.lt_of_lt_of_le hc (Nat.pow_le_pow_right (by omega) (by omega))
  have h2 : (r >>> s) &&& c < 2 ^ 8 := Nat.lt_of_le_of_lt Nat.and_le_right hc8
  have t : ∀ (a b y : Nat), b < 2 ^ 8 → (256 * a + b).testBit y = if y < 8 then b.testBit y else a.testBit (y - 8) := fun a b y hb => by
    have := Nat.testBit_two_pow_mul_add a (i := 8) (b := b) hb y
    simpa using this
  apply Nat.eq_of_testBit_eq
  intro y
  rw [Nat.testBit_and, Nat.testBit_shiftRight, t _ _ _ (by simpa using hr), t _ _ _ hc8, t _ _ _ h2]
  by_cases hy : y < 8
  · rw [if_pos hy, if_pos hy, Nat.testBit_and, Nat.testBit_shiftRight]
    by_cases h : s + y < 8
    · rw [if_pos h]
    · have : c.testBit y = false := Nat.testBit_lt_two_pow (Nat.lt_of_lt_of_le hc (Nat.pow_le_pow_right (by omega) (by omega)))
      simp [this]
  · rw [if_neg hy, if_neg hy, if_neg (by omega), Nat.testBit_and, Nat.testBit_shiftRight, show s + y - 8 = s + (y - 8) by omega]
def mK (c : Nat) : Nat → Nat | 0 => 0 | k + 1 => 256 * mK c k + c
def A1 (k x : Nat) : Nat := (x >>> 1 &&& mK 85 k) + (x &&& mK 85 k)
def A2 (k x : Nat) : Nat := (x >>> 2 &&& mK 51 k) + (x &&& mK 51 k)
def A3 (k x : Nat) : Nat := (x >>> 4 + x) &&& mK 15 k
theorem A1_succ (k q r : Nat) (hr : r < 256) : A1 (k + 1) (256 * q + r) = 256 * A1 k q + A1 1 r := by
  have h1 := and_split 1 q r (mK 85 k) 85 (by omega) hr (by decide)
  have h0 := and_split 0 q r (mK 85 k) 85 (by omega) hr (by decide)
  simp only [Nat.shiftRight_zero] at h0
  unfold A1
  rw [show mK 85 (k + 1) = 256 * mK 85 k + 85 from rfl, show mK 85 1 = 85 from rfl, h1, h0]
  omega
theorem A2_succ (k q r : Nat) (hr : r < 256) : A2 (k + 1) (256 * q + r) = 256 * A2 k q + A2 1 r := by
  have h1 := and_split 2 q r (mK 51 k) 51 (by omega) hr (by decide)
  have h0 := and_split 0 q r (mK 51 k) 51 (by omega) hr (by decide)
  simp only [Nat.shiftRight_zero] at h0
  unfold A2
  rw [show mK 51 (k + 1) = 256 * mK 51 k + 51 from rfl, show mK 51 1 = 51 from rfl, h1, h0]
  omega
theorem A12_byte : ∀ r : _root_.Fin 256, A1 1 r.val < 256 ∧ A2 1 (A1 1 r.val) ≤ 68 ∧ A2 1 (A1 1 r.val) % 16 ≤ 4 ∧ (A2 1 (A1 1 r.val) + A2 1 (A1 1 r.val) / 16) % 16 = pop8 r.val ∧ pop8 r.val ≤ 8 := by decide +kernel
theorem A3_succ (k q r : Nat) (hq : q % 16 ≤ 4) (hr : r ≤ 68) : A3 (k + 1) (256 * q + r) = 256 * A3 k q + (r + r / 16) % 16 := by
  unfold A3
  have e : (256 * q + r) >>> 4 + (256 * q + r) = 256 * (q >>> 4 + q) + (16 * (q % 16) + r + r / 16) := by
    simp only [Nat.shiftRight_eq_div_pow]
    omega
  rw [e]
  have h := and_split 0 (q >>> 4 + q) (16 * (q % 16) + r + r / 16) (mK 15 k) 15 (by omega) (by omega) (by decide)
  simp only [Nat.shiftRight_zero] at h
  rw [show mK 15 (k + 1) = 256 * mK 15 k + 15 from rfl, h]
  have : (16 * (q % 16) + r + r / 16) &&& 15 = (16 * (q % 16) + r + r / 16) % 16 := Nat.and_two_pow_sub_one_eq_mod _ 4
  rw [this]; omega
def popS (k x : Nat) : Nat := A3 k (A2 k (A1 k x))
def popG : Nat → Nat → Nat | 0, _ => 0 | k + 1, x => pop8 (x % 256) + 256 * popG k (x / 256)
theorem stage2_low : ∀ (k x : Nat), A2 k (A1 k x) % 16 ≤ 4
  | 0, x => by simp [A2, A1, mK]
  | k + 1, x => by
    have hr : x % 256 < 256 := Nat.mod_lt _ (by omega)
    obtain ⟨b1, b2, b3, b4, b5⟩ := A12_byte ⟨x % 256, hr⟩
    simp only at b1 b2 b3 b4 b5
    have e : x = 256 * (x / 256) + x % 256 := by omega
    rw [e, A1_succ k _ _ hr, A2_succ k _ _ b1]
    clear e
    omega
theorem popS_eq : ∀ (k x : Nat), popS k x = popG k x
  | 0, x => by simp [popS, A3, mK, popG]
  | k + 1, x => by
    have hr : x % 256 < 256 := Nat.mod_lt _ (by omega)
    obtain ⟨b1, b2, b3, b4, b5⟩ := A12_byte ⟨x % 256, hr⟩
    simp only at b1 b2 b3 b4 b5
    have ih := popS_eq k (x / 256)
    unfold popS at ih ⊢
    have e : x = 256 * (x / 256) + x % 256 := by omega
    conv => lhs; rw [e]
    rw [A1_succ k _ _ hr, A2_succ k _ _ b1, A3_succ k _ _ (stage2_low k _) b2, ih, b4, popG]
    omega
theorem popG_pop : ∀ (k x : Nat), x < 256 ^ k → ∃ l : List Nat, l.length = k ∧ (∀ p ∈ l, p ≤ 8) ∧ popG k x = l.foldr (fun p s => p + 256 * s) 0 ∧ popK k x = l.foldr (· + ·) 0
  | 0, x, _ => ⟨[], rfl, by simp, rfl, rfl⟩
  | k + 1, x, h => by
    have hr : x % 256 < 256 := Nat.mod_lt _ (by omega)
    obtain ⟨l, h1, h2, h3, h4⟩ := popG_pop k (x / 256) (by rw [Nat.pow_succ] at h; exact Nat.div_lt_of_lt_mul (by omega))
    obtain ⟨b1, b2, b3, b4, b5⟩ := A12_byte ⟨x % 256, hr⟩
    refine ⟨pop8 (x % 256) :: l, by simp [h1], ?_, ?_, ?_⟩
    · intro p hp
      rcases List.mem_cons.1 hp with rfl | hp
      · exact b5
      · exact h2 p hp
    · simp only [popG, List.foldr_cons, h3]
    · have e : x = 256 * (x / 256) + x % 256 := by omega
      conv => lhs; rw [e]
      rw [popK_succ k _ _ hr, h4]; rfl
def popT (y : Nat) : Nat := (fun c => c % 128) ((fun b => b + b / 4294967296) ((fun a => a + a / 65536) (y + y / 256)))
theorem popT_sum {l : List Nat} (h8 : l.length = 8) (h : ∀ p ∈ l, p ≤ 8) : popT (l.foldr (fun p s => p + 256 * s) 0) = l.foldr (· + ·) 0 := by
  match l, h8 with
  | [a, b, c, d, e, f, g, i], _ =>
    simp only [List.mem_cons, List.not_mem_nil, or_false] at h
    have ha := h a (by simp)
    have hb := h b (by simp)
    have hc := h c (by simp)
    have hd := h d (by simp)
    have he := h e (by simp)
    have hf := h f (by simp)
    have hg := h g (by simp)
    have hi := h i (by simp)
    simp only [List.foldr_cons, List.foldr_nil, popT]
    have d1 : ∀ a X : Nat, a < 256 → (a + 256 * X) / 256 = X := fun a X h => by omega
    have d2 : ∀ a b X : Nat, a < 256 → b < 256 → (a + 256 * (b + 256 * X)) / 65536 = X := fun a b X h1 h2 => by omega
    have d4 : ∀ a b c d X : Nat, a < 256 → b < 256 → c < 256 → d < 256 → (a + 256 * (b + 256 * (c + 256 * (d + 256 * X)))) / 4294967296 = X := fun a b c d X h1 h2 h3 h4 => by omega
    have k1 : ∀ y, y = a + 256 * (b + 256 * (c + 256 * (d + 256 * (e + 256 * (f + 256 * (g + 256 * (i + 256 * 0))))))) → y + y / 256 = (a + b) + 256 * ((b + c) + 256 * ((c + d) + 256 * ((d + e) + 256 * ((e + f) + 256 * ((f + g) + 256 * ((g + i) + 256 * i)))))) := fun y hy => by
      rw [hy, d1 a _ (by omega)]; omega
    have k2 : ∀ y, y = (a + b) + 256 * ((b + c) + 256 * ((c + d) + 256 * ((d + e) + 256 * ((e + f) + 256 * ((f + g) + 256 * ((g + i) + 256 * i)))))) → y + y / 65536 = (a + b + (c + d)) + 256 * ((b + c + (d + e)) + 256 * ((c + d + (e + f)) + 256 * ((d + e + (f + g)) + 256 * ((e + f + (g + i)) + 256 * ((f + g + i) + 256 * ((g + i) + 256 * i)))))) := fun y hy => by
      rw [hy, d2 _ _ _ (by omega) (by omega)]; omega
    have k3 : ∀ y, y = (a + b + (c + d)) + 256 * ((b + c + (d + e)) + 256 * ((c + d + (e + f)) + 256 * ((d + e + (f + g)) + 256 * ((e + f + (g + i)) + 256 * ((f + g + i) + 256 * ((g + i) + 256 * i)))))) → (y + y / 4294967296) % 128 = a + (b + (c + (d + (e + (f + (g + (i + 0))))))) := fun y hy => by
      rw [hy, d4 _ _ _ _ _ (by omega) (by omega) (by omega) (by omega)]; omega
    exact k3 _ (k2 _ (k1 _ rfl))
theorem pop_alg {x : Nat} (h : x < 18446744073709551616) : popT (popS 8 x) = popK 8 x ∧ popS 8 x < 1000000000000000000 ∧ popK 8 x ≤ 64 := by
  obtain ⟨l, h1, h2, h3, h4⟩ := popG_pop 8 x (by simpa using h)
  rw [popS_eq, h3, h4]
  refine ⟨popT_sum h1 h2, ?_⟩
  match l, h1 with
  | [a, b, c, d, e, f, g, i], _ =>
    simp only [List.mem_cons, List.not_mem_nil, or_false] at h2
    have ha := h2 a (by simp)
    have hb := h2 b (by simp)
    have hc := h2 c (by simp)
    have hd := h2 d (by simp)
    have he := h2 e (by simp)
    have hf := h2 f (by simp)
    have hg := h2 g (by simp)
    have hi := h2 i (by simp)
    simp only [List.foldr_cons, List.foldr_nil]
    omega

/-! ### How many, of any words -/
def e1X : X := .op .add .u64 (.op .and .u64 (.op .shr .u64 (.var 0) (.lit 1)) (.lit 6148914691236517205)) (.op .and .u64 (.var 0) (.lit 6148914691236517205))
def e2X : X := .op .add .u64 (.op .and .u64 (.op .shr .u64 e1X (.lit 2)) (.lit 3689348814741910323)) (.op .and .u64 e1X (.lit 3689348814741910323))
def e3X : X := .op .and .u64 (.op .add .u64 (.op .shr .u64 e2X (.lit 4)) e2X) (.lit 1085102592571150095)
def e4X : X := .op .add .u64 e3X (.op .shr .u64 e3X (.lit 8))
def e5X : X := .op .add .u64 e4X (.op .shr .u64 e4X (.lit 16))
def e6X : X := .op .add .u64 e5X (.op .shr .u64 e5X (.lit 32))
theorem tP_eq : t64 = .done (.int .i64 (.op .and .i64 (.conv .i64 e6X) (.lit 127))) [] := by kernel_rfl
theorem add_u64 {a b : Nat} (h : a + b < 18446744073709551616) : intOp .add .u64 (a : Int) (b : Int) = ((a + b : Nat) : Int) := by
  simp only [intOp]
  rw [show (a : Int) + (b : Int) = ((a + b : Nat) : Int) by omega]
  exact wrap_u64 h
theorem and_i127 {n : Nat} (h : n < 9223372036854775808) : intOp .and .i64 (n : Int) 127 = ((n % 128 : Nat) : Int) := by
  have e : (BitVec.ofInt 64 (n : Int) &&& BitVec.ofInt 64 127).toNat = n % 128 := by
    rw [BitVec.toNat_and]
    have h1 : (BitVec.ofInt 64 (n : Int)).toNat = n := by simp [BitVec.toNat_ofInt]; omega
    have h2 : (BitVec.ofInt 64 127).toNat = 127 := by decide
    rw [h1, h2]; exact Nat.and_two_pow_sub_one_eq_mod _ 7
  show IntKind.i64.wrap ((BitVec.ofInt 64 (n : Int) &&& BitVec.ofInt 64 127).toNat : Int) = _
  rw [e]
  exact wrap_i64 (by omega) (by omega)
theorem s64 {h : H} {w : Nat} (hw : w < 18446744073709551616) : CallsA Tryd.prog 64 (fun _ => [.int .u64 (w : Int)]) [] h (Ret fun r h' => h' = h ∧ r = .int .i64 (popK 8 w : Int)) := by
  refine c64 (G := [.int .u64 (w : Int)]) ⟨⟨_, rfl⟩, trivial⟩ ?_
  rw [tP_eq]
  refine ⟨rfl, rfl, ?_⟩
  obtain ⟨p1, p2, p3⟩ := pop_alg hw
  have v0 : vi ((X.var 0).den [.int .u64 (w : Int)]) = (w : Int) := rfl
  have m0 : mK 85 8 = 6148914691236517205 := by decide
  have m1 : mK 51 8 = 3689348814741910323 := by decide
  have m2 : mK 15 8 = 1085102592571150095 := by decide
  have q1 : A1 8 w < 18446744073709551616 := by
    have a1 : w >>> 1 &&& mK 85 8 ≤ mK 85 8 := Nat.and_le_right
    have a2 : w &&& mK 85 8 ≤ mK 85 8 := Nat.and_le_right
    unfold A1; omega
  have q2 : A2 8 (A1 8 w) ≤ 7378697629483820646 := by
    have a1 : A1 8 w >>> 2 &&& mK 51 8 ≤ mK 51 8 := Nat.and_le_right
    have a2 : A1 8 w &&& mK 51 8 ≤ mK 51 8 := Nat.and_le_right
    unfold A2; omega
  have f1 : vi (e1X.den [.int .u64 (w : Int)]) = (A1 8 w : Int) := by
    have a1 : w >>> 1 &&& mK 85 8 ≤ mK 85 8 := Nat.and_le_right
    have a2 : w &&& mK 85 8 ≤ mK 85 8 := Nat.and_le_right
    have s1 : w >>> 1 ≤ w := Nat.shiftRight_le _ _
    unfold e1X
    simp only [X.den, vi_int, gv_zero]
    have b1 : intOp .shr .u64 (w : Int) 1 = ((w >>> 1 : Nat) : Int) := bit_shr (s := 1) (by omega)
    have b2 : intOp .and .u64 ((w >>> 1 : Nat) : Int) 6148914691236517205 = ((w >>> 1 &&& 6148914691236517205 : Nat) : Int) := bit_and (b := 6148914691236517205) (by omega) (by omega)
    have b3 : intOp .and .u64 (w : Int) 6148914691236517205 = ((w &&& 6148914691236517205 : Nat) : Int) := bit_and (b := 6148914691236517205) (by omega) (by omega)
    rw [m0] at a1 a2
    rw [b1, b2, b3, add_u64 (by omega)]
    unfold A1; rw [m0]
  have f2 : vi (e2X.den [.int .u64 (w : Int)]) = (A2 8 (A1 8 w) : Int) := by
    generalize A1 8 w = x at f1 q1 q2
    have a1 : x >>> 2 &&& mK 51 8 ≤ mK 51 8 := Nat.and_le_right
    have a2 : x &&& mK 51 8 ≤ mK 51 8 := Nat.and_le_right
    have s1 : x >>> 2 ≤ x := Nat.shiftRight_le _ _
    unfold e2X
    simp only [X.den, vi_int, f1]
    have b1 : intOp .shr .u64 (x : Int) 2 = ((x >>> 2 : Nat) : Int) := bit_shr (s := 2) (by omega)
    have b2 : intOp .and .u64 ((x >>> 2 : Nat) : Int) 3689348814741910323 = ((x >>> 2 &&& 3689348814741910323 : Nat) : Int) := bit_and (b := 3689348814741910323) (by omega) (by omega)
    have b3 : intOp .and .u64 (x : Int) 3689348814741910323 = ((x &&& 3689348814741910323 : Nat) : Int) := bit_and (b := 3689348814741910323) (by omega) (by omega)
    rw [m1] at a1 a2
    rw [b1, b2, b3, add_u64 (by omega)]
    unfold A2; rw [m1]
  have f3 : vi (e3X.den [.int .u64 (w : Int)]) = (popS 8 w : Int) := by
    unfold popS
    generalize A2 8 (A1 8 w) = x at f2 q2
    have s1 : x >>> 4 ≤ x := Nat.shiftRight_le _ _
    have s2 : x >>> 4 ≤ 1000000000000000000 := by rw [Nat.shiftRight_eq_div_pow]; omega
    unfold e3X
    simp only [X.den, vi_int, f2]
    have b1 : intOp .shr .u64 (x : Int) 4 = ((x >>> 4 : Nat) : Int) := bit_shr (s := 4) (by omega)
    have b2 : intOp .and .u64 ((x >>> 4 + x : Nat) : Int) 1085102592571150095 = ((x >>> 4 + x &&& 1085102592571150095 : Nat) : Int) := bit_and (b := 1085102592571150095) (by omega) (by omega)
    rw [b1, add_u64 (by omega), b2]
    unfold A3; rw [m2]
  generalize popS 8 w = y at f3 p1 p2
  have f4 : vi (e4X.den [.int .u64 (w : Int)]) = ((y + y / 256 : Nat) : Int) := by
    unfold e4X
    simp only [X.den, vi_int, f3]
    have b1 : intOp .shr .u64 (y : Int) 8 = ((y >>> 8 : Nat) : Int) := bit_shr (s := 8) (by omega)
    rw [b1, Nat.shiftRight_eq_div_pow, show (2 : Nat) ^ 8 = 256 by decide, add_u64 (by omega)]
  obtain ⟨z, hz⟩ : ∃ z, z = y + y / 256 := ⟨_, rfl⟩
  rw [← hz] at f4
  have f5 : vi (e5X.den [.int .u64 (w : Int)]) = ((z + z / 65536 : Nat) : Int) := by
    unfold e5X
    simp only [X.den, vi_int, f4]
    have b1 : intOp .shr .u64 (z : Int) 16 = ((z >>> 16 : Nat) : Int) := bit_shr (s := 16) (by omega)
    rw [b1, Nat.shiftRight_eq_div_pow, show (2 : Nat) ^ 16 = 65536 by decide, add_u64 (by omega)]
  obtain ⟨u, hu⟩ : ∃ u, u = z + z / 65536 := ⟨_, rfl⟩
  rw [← hu] at f5
  have f6 : vi (e6X.den [.int .u64 (w : Int)]) = ((u + u / 4294967296 : Nat) : Int) := by
    unfold e6X
    simp only [X.den, vi_int, f5]
    have b1 : intOp .shr .u64 (u : Int) 32 = ((u >>> 32 : Nat) : Int) := bit_shr (s := 32) (by omega)
    rw [b1, Nat.shiftRight_eq_div_pow, show (2 : Nat) ^ 32 = 4294967296 by decide, add_u64 (by omega)]
  show Value.int .i64 (intOp .and .i64 (IntKind.i64.wrap (vi (e6X.den [.int .u64 (w : Int)]))) 127) = _
  rw [f6, wrap_i64 (by omega) (by omega), and_i127 (by omega), ← p1]
  unfold popT
  rw [hu, hz]
theorem popK_word {ws : List Int} {i n : Nat} (hx : ws[i]? = some (n : Int)) : ((List.range (64 * (i + 1))).filter (hasW ws)).length = ((List.range (64 * i)).filter (hasW ws)).length + popK 8 n := by
  rw [show 64 * (i + 1) = 64 * i + 64 by omega, List.range_add, List.filter_append, List.length_append, List.filter_map, List.length_map]
  unfold popK
  congr 2
  apply List.filter_congr
  intro y hy
  have := hasW_word hx (List.mem_range.1 hy)
  rw [Int.toNat_natCast] at this
  exact this
theorem s61 {h : H} {v : Value} {ws : List Int} (hv : WordsAt h v ws) (hw : InW ws) (hl : ws.length ≤ 64) :
    CallsA Tryd.prog 61 (fun _ => [.agg #[v]]) [] h (Ret fun r h' => h' = h ∧ r = .int .i64 ((allW ws).length : Int)) := by
  refine c61 (G := [v]) ⟨hv.fit, trivial⟩ ?_
  have hvl := hv.len
  refine h_loop (fun xs h' => ∃ i : Nat, h' = h ∧ i ≤ ws.length ∧ xs = [.int .i64 (((List.range (64 * i)).filter (hasW ws)).length : Int), .int .i64 (i : Int)])
    (fun xs h' => (ws.length - vi (gv xs 1)).toNat) ⟨0, rfl, by omega, rfl⟩ ?_
  rintro xs h' J - ⟨i, e, hi, rfl⟩ hJ
  have e' := e.symm
  subst e'
  simp only [List.cons_append, List.nil_append]
  have hfl := List.length_filter_le (hasW ws) (List.range (64 * i))
  rw [List.length_range] at hfl
  refine h_ite (fun hc => ?_) (fun hc => ?_)
  · replace hc : cmpOp .lss (i : Int) ((vlen v : Nat) : Int) = true := hc
    rw [hvl, cmp_lss, decide_eq_true_eq] at hc
    have hiB : i < ws.length := by omega
    have hx : ws[i]? = some ws[i] := List.getElem?_eq_getElem hiB
    have hxm : ws[i] ∈ ws := List.getElem_mem _
    generalize ws[i] = x at hx hxm
    have hx0 := hw x hxm
    obtain ⟨n, rfl⟩ : ∃ n : Nat, x = n := ⟨x.toNat, by omega⟩
    refine ⟨fun _ => ⟨ge0 i, by show cmpOp .lss (i : Int) ((vlen v : Nat) : Int) = true; rw [hvl]; exact ltN hiB, trivial⟩, h_load [.int .u64 (n : Int)] ⟨⟨_, rfl⟩, trivial⟩ (fun _ => hv.read hx) ?_⟩
    simp only [List.cons_append, List.nil_append]
    refine h_call0 (s64 (w := n) (by omega)) ?_
    rintro _ h3 ⟨e3, rfl⟩
    have e3' := e3.symm
    subst e3'
    refine ⟨[.int .i64 (popK 8 n : Int)], ⟨⟨_, rfl⟩, trivial⟩, rfl, ?_⟩
    have hpl := (pop_alg (x := n) (by omega)).2.2
    show J [.int .i64 (intOp .add .i64 (((List.range (64 * i)).filter (hasW ws)).length : Int) (popK 8 n : Int)), .int .i64 (intOp .add .i64 (i : Int) 1)] h
    rw [int_add_one (n := 1000) (by omega) (by omega)]
    refine hJ _ _ ⟨i + 1, rfl, by omega, ?_⟩ ?_
    · rw [popK_word hx]
      simp only [intOp]
      rw [wrap_i64 (by omega) (by omega)]
      congr 2
    · simp only [gv_zero, gv_succ, vi_int]; omega
  · replace hc : cmpOp .lss (i : Int) ((vlen v : Nat) : Int) = false := hc
    rw [hvl, cmp_lss, decide_eq_false_iff_not] at hc
    have hie : i = ws.length := by omega
    subst hie
    exact ⟨rfl, rfl, rfl⟩
end Go.Proofs.YtbgfabppmobpgaaDoor
