/-
  Sets in full: the lowest bit, all numbers rising, copies, unions, comparisons. Conditions: as each contract says (the table of the lowest bit is at hand).
-/
import Derived.Test.YtgcaicdmjbkplaaDoorR4F
set_option linter.unusedVariables false
set_option linter.unusedSimpArgs false
namespace Go.Proofs.YtgcaicdmjbkplaaDoor
open Go

def tabL : List Int := [0, 1, 56, 2, 57, 49, 28, 3, 61, 58, 42, 50, 38, 29, 17, 4, 62, 47, 59, 36, 45, 43, 51, 22, 53, 39, 33, 30, 24, 18, 12, 5, 63, 55, 48, 27, 60, 41, 37, 16, 46, 35, 44, 21, 52, 32, 23, 11, 54, 26, 40, 15, 34, 20, 31, 10, 25, 14, 19, 9, 13, 8, 7, 6]
/-- The table is at hand. -/
def Tab (h : H) : Prop := Reads h ⟨0, 0, none⟩ (tabL.map (.int .u8))
theorem Tab.le {h h' : H} (hl : h.le h') (t : Tab h) : Tab h' := Reads.le hl t
/-! ### The lowest bit -/
theorem odd_part : ∀ {w : Nat}, w ≠ 0 → ∃ k m, w = 2 ^ k * (2 * m + 1) := by
  intro w
  induction w using Nat.strongRecOn with
  | _ w ih =>
    intro hw
    by_cases h : w % 2 = 1
    · exact ⟨0, w / 2, by omega⟩
    · obtain ⟨k, m, e⟩ := ih (w / 2) (by omega) (by omega)
      refine ⟨k + 1, m, ?_⟩
      rw [Nat.pow_succ, Nat.mul_comm (2 ^ k) 2, Nat.mul_assoc, ← e]; omega
theorem low_testBit (k m y : Nat) : (2 ^ k * (2 * m + 1)).testBit y = if y < k then false else if y = k then true else m.testBit (y - (k + 1)) := by
  have e : 2 ^ k * (2 * m + 1) = 2 ^ (k + 1) * m + 2 ^ k := by rw [Nat.pow_succ, Nat.mul_add, Nat.mul_one, Nat.mul_assoc]
  rw [e, Nat.testBit_two_pow_mul_add m (Nat.pow_lt_pow_right (by omega) (by omega)), Nat.testBit_two_pow]
  by_cases h1 : y < k
  · rw [if_pos (by omega), if_pos h1]; simp; omega
  · rw [if_neg h1]
    by_cases h2 : y = k
    · rw [if_pos (by omega), if_pos h2]; simp [h2]
    · rw [if_neg (by omega), if_neg h2]
theorem low_pred (k m y : Nat) : (2 ^ k * (2 * m + 1) - 1).testBit y = if y < k then true else if y = k then false else m.testBit (y - (k + 1)) := by
  have hp : 0 < 2 ^ k := Nat.two_pow_pos k
  have e : 2 ^ k * (2 * m + 1) - 1 = 2 ^ (k + 1) * m + (2 ^ k - 1) := by
    have : 2 ^ k * (2 * m + 1) = 2 ^ (k + 1) * m + 2 ^ k := by rw [Nat.pow_succ, Nat.mul_add, Nat.mul_one, Nat.mul_assoc]
    omega
  have hlt : 2 ^ k - 1 < 2 ^ (k + 1) := by rw [Nat.pow_succ]; omega
  rw [e, Nat.testBit_two_pow_mul_add m hlt, Nat.testBit_two_pow_sub_one]
  by_cases h1 : y < k
  · rw [if_pos (by omega), if_pos h1]; simp [h1]
  · rw [if_neg h1]
    by_cases h2 : y = k
    · rw [if_pos (by omega), if_pos h2]; simp [h2]
    · rw [if_neg (by omega), if_neg h2]
theorem low_and_pred (k m : Nat) : (2 ^ k * (2 * m + 1)) &&& (2 ^ k * (2 * m + 1) - 1) = 2 ^ (k + 1) * m := by
  apply Nat.eq_of_testBit_eq
  intro y
  rw [Nat.testBit_and, low_testBit, low_pred, Nat.testBit_two_pow_mul]
  by_cases h1 : y < k
  · have : ¬ y ≥ k + 1 := by omega
    simp [h1, this]
  · by_cases h2 : y = k
    · have hd : decide (y ≥ k + 1) = false := by simp; omega
      rw [hd, if_neg h1, if_pos h2, if_neg h1, if_pos h2]; rfl
    · have : y ≥ k + 1 := by omega
      simp [h1, h2, this]
theorem low_and_neg {k m : Nat} (hw : 2 ^ k * (2 * m + 1) < 2 ^ 64) : (2 ^ k * (2 * m + 1)) &&& (2 ^ 64 - 2 ^ k * (2 * m + 1)) = 2 ^ k := by
  have hpos : 0 < 2 ^ k * (2 * m + 1) := Nat.mul_pos (Nat.two_pow_pos k) (by omega)
  have hk : k < 64 := by
    have h1 : 2 ^ k ≤ 2 ^ k * (2 * m + 1) := Nat.le_mul_of_pos_right _ (by omega)
    exact (Nat.pow_lt_pow_iff_right (by decide : 1 < 2)).1 (by omega)
  apply Nat.eq_of_testBit_eq
  intro y
  have hs := Nat.testBit_two_pow_sub_succ (x := 2 ^ k * (2 * m + 1) - 1) (n := 64) (by omega) y
  rw [show 2 ^ k * (2 * m + 1) - 1 + 1 = 2 ^ k * (2 * m + 1) by omega] at hs
  rw [Nat.testBit_and, hs, low_testBit, low_pred, Nat.testBit_two_pow]
  by_cases h1 : y < k
  · have : ¬ k = y := by omega
    simp [h1, this]
  · by_cases h2 : y = k
    · subst h2; simp [hk]
    · have h3 : ¬ k = y := fun e => h2 e.symm
      simp only [h1, h2, h3, if_false]
      cases m.testBit (y - (k + 1)) <;> simp
theorem bit_and {a b : Nat} (ha : a < 18446744073709551616) (hb : b < 18446744073709551616) : intOp .and .u64 (a : Int) (b : Int) = ((a &&& b : Nat) : Int) := by
  have hlt : a &&& b < 2 ^ 64 := Nat.and_lt_two_pow a hb
  have e : (BitVec.ofInt 64 (a : Int) &&& BitVec.ofInt 64 (b : Int)).toNat = a &&& b := by
    rw [BitVec.toNat_and]
    have h1 : ∀ n : Nat, n < 18446744073709551616 → (BitVec.ofInt 64 (n : Int)).toNat = n := fun n hn => by simp [BitVec.toNat_ofInt]; omega
    rw [h1 a ha, h1 b hb]
  show IntKind.u64.wrap ((BitVec.ofInt 64 (a : Int) &&& BitVec.ofInt 64 (b : Int)).toNat : Int) = _
  rw [e]
  exact wrap_u64 hlt
theorem wrap_u64m (n : Nat) : IntKind.u64.wrap (n : Int) = ((n % 18446744073709551616 : Nat) : Int) := by
  simp [IntKind.wrap, IntKind.bits, IntKind.signed]
theorem wrap_u64n {w : Nat} (h0 : 0 < w) (h : w < 18446744073709551616) : IntKind.u64.wrap (0 - (w : Int)) = ((18446744073709551616 - w : Nat) : Int) := by
  simp only [IntKind.wrap, IntKind.bits, IntKind.signed]
  have : (2 : Int) ^ 64 = 18446744073709551616 := by decide
  simp only [Bool.false_and, Bool.false_eq_true, if_false, this]
  omega
theorem div58 (x : Nat) : x % 18446744073709551616 / 288230376151711744 < 64 := by
  have := Nat.mod_lt x (by decide : 0 < 18446744073709551616)
  omega
theorem tab_at : ∀ k : _root_.Fin 64, tabL[(2 ^ k.val * 285870213051353865) % 18446744073709551616 / 288230376151711744]? = some (k.val : Int) := by decide
theorem s56 {h : H} {k m : Nat} (ht : Tab h) (hw : 2 ^ k * (2 * m + 1) < 18446744073709551616) :
    CallsA Tryd.prog 56 (fun _ => [.int .u64 ((2 ^ k * (2 * m + 1) : Nat) : Int)]) [] h (Ret fun r h' => h' = h ∧ r = .int .i64 (k : Int)) := by
  have hpos : 0 < 2 ^ k * (2 * m + 1) := Nat.mul_pos (Nat.two_pow_pos k) (by omega)
  have hk : k < 64 := by
    have h1 : 2 ^ k ≤ 2 ^ k * (2 * m + 1) := Nat.le_mul_of_pos_right _ (by omega)
    exact (Nat.pow_lt_pow_iff_right (by decide : 1 < 2)).1 (by omega)
  have ha := low_and_neg (k := k) (m := m) hw
  generalize 2 ^ k * (2 * m + 1) = w at *
  refine c56 (G := [.int .u64 (w : Int)]) ⟨⟨_, rfl⟩, trivial⟩ ?_
  refine h_ite (fun hc => ?_) (fun hc => ?_)
  · simp only [X.den, gv_zero, vi_int, vb_bool, cmp_eql, decide_eq_true_eq] at hc; omega
  have hp : 2 ^ k < 18446744073709551616 := by
    have : 2 ^ k < 2 ^ 64 := Nat.pow_lt_pow_right (by omega) hk
    exact this
  rw [show (2 : Nat) ^ 64 = 18446744073709551616 by decide] at ha
  have e0 : intOp .sub .u64 0 (w : Int) = ((18446744073709551616 - w : Nat) : Int) := wrap_u64n hpos hw
  have e1 : intOp .and .u64 (w : Int) (intOp .sub .u64 0 (w : Int)) = ((2 ^ k : Nat) : Int) := by
    rw [e0, bit_and hw (by omega), ha]
  obtain ⟨j, hj⟩ : ∃ j, j = (2 ^ k * 285870213051353865) % 18446744073709551616 / 288230376151711744 := ⟨_, rfl⟩
  have hj64 : j < 64 := by rw [hj]; exact div58 _
  have e2 : intOp .shr .u64 (intOp .mul .u64 (intOp .and .u64 (w : Int) (intOp .sub .u64 0 (w : Int))) 285870213051353865) 58 = (j : Int) := by
    rw [e1]
    have : intOp .mul .u64 ((2 ^ k : Nat) : Int) 285870213051353865 = (((2 ^ k * 285870213051353865) % 18446744073709551616 : Nat) : Int) := by
      simp only [intOp]
      rw [show ((2 ^ k : Nat) : Int) * 285870213051353865 = ((2 ^ k * 285870213051353865 : Nat) : Int) by generalize 2 ^ k = z; omega, wrap_u64m]
    rw [this]
    have := bit_shr (w := (2 ^ k * 285870213051353865) % 18446744073709551616) (s := 58) (by omega)
    rw [Nat.shiftRight_eq_div_pow, show (2 : Nat) ^ 58 = 288230376151711744 by decide] at this
    rw [hj]; exact this
  have htab := tab_at ⟨k, hk⟩
  simp only at htab
  rw [← hj] at htab
  refine ⟨fun _ => ?_, h_load [.int .u8 (k : Int)] ⟨⟨_, rfl⟩, trivial⟩ (fun _ => ?_) ⟨rfl, rfl, ?_⟩⟩
  · refine ⟨?_, ?_, trivial⟩
    · simp only [X.den, gv_zero, vi_int, vb_bool, e2]; exact ge0 j
    · simp only [X.den, gv_zero, vi_int, vb_bool, e2]; rw [cmp_lss, decide_eq_true_eq]; exact Int.ofNat_lt.2 hj64
  · simp only [PE.den, X.den, gv_zero, vi_int, e2, Int.toNat_natCast, Nat.mul_one]
    intro i u hi
    have hi' : i = 0 ∧ u = .int .u8 (k : Int) := by
      cases i with
      | zero => simp at hi; exact ⟨rfl, hi.symm⟩
      | succ i => simp at hi
    obtain ⟨rfl, rfl⟩ := hi'
    have := ht j (.int .u8 (k : Int)) (by rw [List.getElem?_map, htab]; rfl)
    rw [add_add]; exact this
  · show Value.int .i64 (IntKind.i64.wrap (k : Int)) = _
    rw [wrap_i64 (by omega) (by omega)]
/-! ### All, rising -/
def allW (ws : List Int) : List Nat := (List.range (64 * ws.length)).filter (hasW ws)
theorem filter_skip {p : Nat → Bool} {a b : Nat} (hab : a ≤ b) (h : ∀ y, a ≤ y → y < b → p y = false) : (List.range b).filter p = (List.range a).filter p := by
  induction b with
  | zero => rw [show a = 0 by omega]
  | succ b ih =>
    by_cases e : a = b + 1
    · rw [e]
    · rw [List.range_succ, List.filter_append, ih (by omega) fun y h1 h2 => h y h1 (by omega)]
      have : p b = false := h b (by omega) (by omega)
      simp [this]
theorem filter_hit {p : Nat → Bool} {a b : Nat} (hab : a ≤ b) (h : ∀ y, a ≤ y → y < b → p y = false) (hb : p b = true) : (List.range (b + 1)).filter p = (List.range a).filter p ++ [b] := by
  rw [List.range_succ, List.filter_append, filter_skip hab h]
  simp [hb]
theorem hasW_word {ws : List Int} {i : Nat} {x : Int} (hx : ws[i]? = some x) {b : Nat} (hb : b < 64) : hasW ws (64 * i + b) = x.toNat.testBit b := by
  unfold hasW
  rw [show (64 * i + b) / 64 = i by omega, show (64 * i + b) % 64 = b by omega, List.getD_eq_getElem?_getD, hx]; rfl
theorem s23 {h : H} {v : Value} {ws : List Int} (ht : Tab h) (hv : WordsAt h v ws) (hw : InW ws) (hl : ws.length ≤ 64) :
    CallsA Tryd.prog 23 (fun _ => [.agg #[v]]) [] h (Ret fun r h' => h.le h' ∧ OwnInts h h' r ((allW ws).map Int.ofNat)) := by
  refine c23 (G := [v]) ⟨hv.fit, trivial⟩ ?_
  have hvl := hv.len
  refine h_loop (fun xs h' => ∃ (i : Nat) (u : Value), xs = [u, .int .i64 (i : Int)] ∧ i ≤ ws.length ∧ OwnInts h h' u (((List.range (64 * i)).filter (hasW ws)).map Int.ofNat) ∧ h.le h')
    (fun xs h' => (ws.length - vi (gv xs 1)).toNat) ⟨0, .slice none 0 0, rfl, by omega, .inl ⟨rfl, rfl⟩, H.le_refl _⟩ ?_
  rintro xs h' J - ⟨i, u, rfl, hi, hu, hle⟩ hJ
  simp only [List.cons_append, List.nil_append]
  refine h_ite (fun hc => ?_) (fun hc => ?_)
  · replace hc : cmpOp .lss (i : Int) ((vlen v : Nat) : Int) = true := hc
    rw [hvl, cmp_lss, decide_eq_true_eq] at hc
    have hil : i < ws.length := by omega
    have hx : ws[i]? = some ws[i] := List.getElem?_eq_getElem hil
    have hxm : ws[i] ∈ ws := List.getElem_mem _
    generalize ws[i] = x at hx hxm
    have hx0 := hw x hxm
    obtain ⟨n, rfl⟩ : ∃ n : Nat, x = n := ⟨x.toNat, by omega⟩
    have hwd : ∀ b, b < 64 → hasW ws (64 * i + b) = n.testBit b := fun b hb => by rw [hasW_word hx hb, Int.toNat_natCast]
    refine ⟨fun _ => ⟨ge0 i, by show cmpOp .lss (i : Int) ((vlen v : Nat) : Int) = true; rw [hvl]; exact ltN hil, trivial⟩, h_load [.int .u64 (n : Int)] ⟨⟨_, rfl⟩, trivial⟩ (fun _ => WordsAt.read (SlAt.le u64C_mono hle hv) hx) ?_⟩
    simp only [List.cons_append, List.nil_append]
    refine h_loop (fun xs h5 => ∃ (c p : Nat) (u : Value), xs = [u, .int .u64 (c : Int)] ∧ p ≤ 64 ∧ c < 18446744073709551616 ∧ (∀ y, c.testBit y = (n.testBit y && decide (p ≤ y))) ∧ OwnInts h h5 u (((List.range (64 * i + p)).filter (hasW ws)).map Int.ofNat) ∧ h.le h5)
      (fun xs h' => (vi (gv xs 1)).toNat) ⟨n, 0, u, rfl, by omega, by omega, (fun y => by simp), by simpa using hu, hle⟩ ?_
    rintro xs h5 J5 - ⟨c, p, u5, rfl, hp, hcl, hcb, hu5, hle5⟩ hJ5
    simp only [List.cons_append, List.nil_append]
    have hul := hu5.ints.len
    have hfl := List.length_filter_le (hasW ws) (List.range (64 * i + p))
    rw [List.length_range] at hfl
    rw [List.length_map] at hul
    refine h_ite (fun hc5 => ?_) (fun hc5 => ?_)
    · replace hc5 : cmpOp .neq (c : Int) 0 = true := hc5
      rw [cmp_neq, decide_eq_true_eq] at hc5
      obtain ⟨k, m, e⟩ := odd_part (w := c) (by omega)
      have hck : c.testBit k = true := by rw [e, low_testBit]; simp
      have hclow : ∀ y, y < k → c.testBit y = false := fun y hy => by rw [e, low_testBit, if_pos hy]
      have hnk : n.testBit k = true ∧ p ≤ k := by rw [hcb] at hck; simpa using hck
      have hk64 : k < 64 := by
        have h1 : 2 ^ k ≤ c := by rw [e]; exact Nat.le_mul_of_pos_right _ (by omega)
        exact (Nat.pow_lt_pow_iff_right (by decide : 1 < 2)).1 (by omega)
      subst e
      refine h_call0 (s56 (ht.le hle5) hcl) ?_
      rintro _ g6 ⟨e6, rfl⟩
      have e6' := e6.symm
      subst e6'
      refine ⟨[.int .i64 (k : Int)], ⟨⟨_, rfl⟩, trivial⟩, rfl, ?_⟩
      simp only [List.cons_append, List.nil_append]
      have hval : intOp .add .i64 (intOp .mul .i64 64 (i : Int)) (k : Int) = ((64 * i + k : Nat) : Int) := by
        simp only [intOp]
        rw [wrap_i64 (n := 64 * (i : Int)) (by omega) (by omega), wrap_i64 (by omega) (by omega)]; push_cast; rfl
      refine ⟨[natV (64 * i + k)], 1, ⟨?_, rfl⟩, ?_⟩
      · show [natV (64 * i + k)] = [Value.int .i64 (intOp .add .i64 (intOp .mul .i64 64 (i : Int)) (k : Int))]
        rw [hval]
      show AppSpec _ _ _ _ _ u5 _ _ _
      refine app_row hu5 hle5 rfl zero_int (by rw [hul]; omega) fun u' h7 k1 k2 k3 k4 k5 => ?_
      have hsub : intOp .sub .u64 ((2 ^ k * (2 * m + 1) : Nat) : Int) 1 = ((2 ^ k * (2 * m + 1) - 1 : Nat) : Int) := by
        have hpos : 0 < 2 ^ k * (2 * m + 1) := Nat.mul_pos (Nat.two_pow_pos k) (by omega)
        simp only [intOp]
        rw [show ((2 ^ k * (2 * m + 1) : Nat) : Int) - 1 = ((2 ^ k * (2 * m + 1) - 1 : Nat) : Int) by omega]
        exact wrap_u64 (by omega)
      show J5 [u', .int .u64 (intOp .and .u64 ((2 ^ k * (2 * m + 1) : Nat) : Int) (intOp .sub .u64 ((2 ^ k * (2 * m + 1) : Nat) : Int) 1))] h7
      have hlt : 2 ^ (k + 1) * m < 2 ^ k * (2 * m + 1) := by
        rw [Nat.pow_succ, Nat.mul_add, Nat.mul_one, Nat.mul_assoc]
        have := Nat.two_pow_pos k
        omega
      rw [hsub, bit_and hcl (by omega), low_and_pred]
      have hfalse : ∀ y, 64 * i + p ≤ y → y < 64 * i + k → hasW ws y = false := fun y h1 h2 => by
        have := hclow (y - 64 * i) (by omega)
        rw [hcb] at this
        have hd : decide (p ≤ y - 64 * i) = true := by simp; omega
        rw [hd, Bool.and_true] at this
        have e := hwd (y - 64 * i) (by omega)
        rw [show 64 * i + (y - 64 * i) = y by omega] at e
        rw [e]; exact this
      refine hJ5 _ _ ⟨2 ^ (k + 1) * m, k + 1, u', rfl, by omega, by omega, fun y => ?_, ?_, k3⟩ ?_
      · rw [Nat.testBit_two_pow_mul]
        have e1 := hcb y
        rw [low_testBit] at e1
        by_cases h1 : k + 1 ≤ y
        · have h2 : p ≤ y := by omega
          rw [if_neg (by omega), if_neg (by omega)] at e1
          simp [h1, h2] at e1 ⊢
          exact e1
        · simp [h1]
      · have := filter_hit (p := hasW ws) (a := 64 * i + p) (b := 64 * i + k) (by omega) hfalse (by rw [hwd k hk64]; exact hnk.1)
        rw [show 64 * i + (k + 1) = 64 * i + k + 1 by omega, this, List.map_append]
        unfold OwnInts; rw [List.map_append]; exact k1
      · simp only [gv_zero, gv_succ, vi_int, Int.toNat_natCast]; exact hlt
    · replace hc5 : cmpOp .neq (c : Int) 0 = false := hc5
      rw [cmp_neq, decide_eq_false_iff_not] at hc5
      have hc0 : c = 0 := by omega
      subst hc0
      have hfalse : ∀ y, 64 * i + p ≤ y → y < 64 * (i + 1) → hasW ws y = false := fun y h1 h2 => by
        have := hcb (y - 64 * i)
        rw [Nat.zero_testBit] at this
        have hd : decide (p ≤ y - 64 * i) = true := by simp; omega
        rw [hd, Bool.and_true] at this
        have e := hwd (y - 64 * i) (by omega)
        rw [show 64 * i + (y - 64 * i) = y by omega] at e
        rw [e]; exact this.symm
      show J [u5, .int .i64 (intOp .add .i64 (i : Int) 1)] h5
      rw [int_add_one (n := 1000) (by omega) (by omega)]
      refine hJ _ _ ⟨i + 1, u5, rfl, by omega, ?_, hle5⟩ ?_
      · rw [filter_skip (a := 64 * i + p) (by omega) hfalse]; exact hu5
      · simp only [gv_zero, gv_succ, vi_int]; omega
  · replace hc : cmpOp .lss (i : Int) ((vlen v : Nat) : Int) = false := hc
    rw [hvl, cmp_lss, decide_eq_false_iff_not] at hc
    have : i = ws.length := by omega
    subst this
    exact ⟨rfl, hle, hu⟩
theorem hasW_big {ws : List Int} {x : Nat} (h : hasW ws x = true) : x < 64 * ws.length := by
  unfold hasW at h
  by_cases hx : x / 64 < ws.length
  · omega
  · rw [List.getD_eq_getElem?_getD, List.getElem?_eq_none (by omega)] at h
    simp at h
theorem mem_allW {ws : List Int} {x : Nat} : x ∈ allW ws ↔ hasW ws x = true := by
  unfold allW
  rw [List.mem_filter, List.mem_range]
  exact ⟨fun q => q.2, fun q => ⟨hasW_big q, q⟩⟩
theorem allW_eq {ws vs : List Int} (h : ∀ x, hasW ws x = hasW vs x) : allW ws = allW vs := by
  have hp : hasW ws = hasW vs := funext h
  unfold allW
  rw [hp]
  rcases Nat.le_total ws.length vs.length with q | q
  · refine (filter_skip (a := 64 * ws.length) (b := 64 * vs.length) (by omega) fun y h1 h2 => ?_).symm
    cases e : hasW vs y with
    | false => rfl
    | true => rw [← hp] at e; have := hasW_big e; omega
  · refine filter_skip (a := 64 * vs.length) (b := 64 * ws.length) (by omega) fun y h1 h2 => ?_
    cases e : hasW vs y with
    | false => rfl
    | true => have := hasW_big e; omega
/-! ### Two rows compared -/
theorem s51 {h : H} {u v : Value} {l m : List Int} (hu : IntsAt h u l) (hv : IntsAt h v m) (hl : l.length ≤ 100000) : CallsA Tryd.prog 51 (fun _ => [u, v]) [] h (Ret fun r h' => h' = h ∧ r = .bool (decide (l = m))) := by
  refine c51 (G := [u, v]) ⟨hu.fit, hv.fit, trivial⟩ ?_
  have hul := hu.len
  have hvl := hv.len
  refine h_ite (fun hc => ?_) (fun hc => ?_)
  · replace hc : cmpOp .neq ((vlen u : Nat) : Int) ((vlen v : Nat) : Int) = true := hc
    rw [hul, hvl, cmp_neq, decide_eq_true_eq] at hc
    have : l ≠ m := fun e => by rw [e] at hc; omega
    exact ⟨rfl, rfl, by simp [this]; rfl⟩
  · replace hc : cmpOp .neq ((vlen u : Nat) : Int) ((vlen v : Nat) : Int) = false := hc
    rw [hul, hvl, cmp_neq, decide_eq_false_iff_not] at hc
    have hlm : l.length = m.length := by omega
    refine h_range (n := l.length) (fun i h' => h' = h ∧ l.take i = m.take i) hul (by omega) rfl (by omega) ⟨rfl, rfl⟩ ?_ ?_
    · rintro i h' J hi ⟨e, hp⟩ hJ
      have e' := e.symm
      subst e'
      have hx : l[i]? = some l[i] := List.getElem?_eq_getElem hi
      have hy : m[i]? = some m[i] := List.getElem?_eq_getElem (by omega)
      generalize l[i] = x at hx
      generalize m[i] = y at hy
      refine h_load [.int .i64 x] ⟨⟨_, rfl⟩, trivial⟩ (fun _ => hu.read hx) ⟨fun _ => ⟨ge0 i, by show cmpOp .lss (i : Int) ((vlen v : Nat) : Int) = true; rw [hvl]; exact ltN (by omega), trivial⟩, h_load [.int .i64 y] ⟨⟨_, rfl⟩, trivial⟩ (fun _ => hv.read hy) (h_ite (fun hc2 => ?_) (fun hc2 => ?_))⟩
      · replace hc2 : cmpOp .neq x y = true := hc2
        rw [cmp_neq, decide_eq_true_eq] at hc2
        have : l ≠ m := fun e => by rw [e, hy] at hx; cases hx; exact hc2 rfl
        exact ⟨rfl, rfl, by simp [this]; rfl⟩
      · replace hc2 : cmpOp .neq x y = false := hc2
        rw [cmp_neq, decide_eq_false_iff_not] at hc2
        have hxy : x = y := Decidable.not_not.1 hc2
        refine hJ _ ⟨rfl, ?_⟩
        rw [List.take_add_one, List.take_add_one, hp, hx, hy, hxy]
    · rintro h' J ⟨e, hp⟩
      have : l = m := by
        rw [List.take_length, hlm, List.take_length] at hp; exact hp
      exact ⟨rfl, e, by simp [this]; rfl⟩
/-! ### Sets: copied, joined, compared -/
theorem WordsAt.all {h : H} {v : Value} {l : List Int} (H : WordsAt h v l) : Reads h (vaddr v) (l.map (.int .u64)) := by
  intro i w hi
  rw [List.getElem?_map, Option.map_eq_some_iff] at hi
  obtain ⟨x, hx, rfl⟩ := hi
  have := H.read hx 0 _ rfl
  rw [add_add] at this; simpa using this
theorem s50 {h : H} {v : Value} {ws : List Int} (hv : WordsAt h v ws) (hw : InW ws) (hl : ws.length ≤ 64) :
    CallsA Tryd.prog 50 (fun _ => [v]) [] h (Ret fun r h' => KeptH h h' [] ∧ ∃ fp, SetIs h' r ws fp ∧ Fresh h fp) := by
  have hvl := hv.len
  refine c50 (G := [v]) ⟨hv.fit, trivial⟩ ?_
  refine h_ite (fun hc => ?_) (fun hc => ?_)
  · replace hc : vnil v = true := hc
    have hw0 : ws = [] := by
      obtain ⟨a, n, c, rfl, h2, h3⟩ := hv.fit
      cases a with
      | none => have := (h2 rfl).1; simp only [vlen_sl] at hvl; exact List.eq_nil_of_length_eq_zero (by omega)
      | some a => cases hc
    subst hw0
    exact ⟨rfl, KeptH.refl _ _, [], ⟨.inl ⟨rfl, rfl, rfl⟩, hw, hl⟩, fun b hb => by cases hb⟩
  · intro b hb
    have r0 : RowF (h.put b (.cells ([] : List Value).toArray 117 (0, 0))) 117 1 (.slice (some ⟨b, 0, none⟩) 0 0) [] [b] := RowF.new (r := []) (c := 0) rfl rfl (Nat.le_refl _)
    have k0 : KeptH h (h.put b (.cells ([] : List Value).toArray 117 (0, 0))) [] := KeptH.put hb _
    have hv' : WordsAt (h.put b (.cells ([] : List Value).toArray 117 (0, 0))) v ws := SlAt.le u64C_mono (H.le_put hb) hv
    show holds _ _ _ [v, .slice (some ⟨b, 0, none⟩) 0 0] [] (h.put b (.cells ([] : List Value).toArray 117 (0, 0)))
    generalize h.put b (.cells ([] : List Value).toArray 117 (0, 0)) = g1 at r0 k0 hv'
    have hall := WordsAt.all hv'
    obtain ⟨a, n, c, rfl, q2, q3⟩ := hv.fit
    simp only [vlen_sl] at hvl
    refine ⟨ws.map (.int .u64), ws.length, ⟨by simp, (fun z hz => ?_), ?_⟩, ?_⟩
    · obtain ⟨x, _, rfl⟩ := List.mem_map.1 hz; rfl
    · cases a with
      | none => exact ⟨hvl.symm, (q2 rfl).1⟩
      | some a => exact ⟨hvl.symm, hall⟩
    show AppSpec _ _ _ _ _ (.slice (some ⟨b, 0, none⟩) 0 0) _ _ _
    refine app_rowF r0 (by simp) (by rw [zero_u64]; rfl) (by simp only [vlen_sl]; omega) fun v2 h2 f2 m1 m2 m3 m4 => ?_
    have hf2 : Fresh h f2 := fun x hx => by
      rcases m4 with rfl | ⟨b', rfl, hb'⟩
      · rw [List.mem_singleton] at hx; subst hx; exact hb
      · rw [List.mem_singleton] at hx; subst hx; exact H.le_none k0.le_nil hb'
    exact ⟨rfl, KeptH.trans_nil k0 m3 (fun x hx => by rw [List.mem_singleton] at hx; subst hx; exact hb), f2, ⟨m1, hw, hl⟩, hf2⟩
theorem s13 {h : H} {v : Value} {ws : List Int} (hv : WordsAt h v ws) (hw : InW ws) (hl : ws.length ≤ 64) :
    CallsA Tryd.prog 13 (fun _ => [.agg #[v]]) [] h (Ret fun r h' => KeptH h h' [] ∧ ∃ v' fp, r = .agg #[v'] ∧ SetIs h' v' ws fp ∧ Fresh h fp) := by
  refine c13 (G := [v]) ⟨hv.fit, trivial⟩ ?_
  refine h_call0 (s50 hv hw hl) ?_
  rintro r h' ⟨hk, fp, hs, hf⟩
  exact ⟨[r], ⟨hs.fit, trivial⟩, rfl, rfl, hk, r, fp, rfl, hs, hf⟩
theorem s14k {h : H} {v o : Value} {ws wo : List Int} {fp : List Nat} (ht : Tab h) (hs : SetIs h v ws fp) (ho : WordsAt h o wo) (hwo : InW wo) (hlo : wo.length ≤ 64) (h7 : ∀ y, hasW ws y = true → y < 7) (ho7 : ∀ y, hasW wo y = true → y < 7) :
    CallsA Tryd.prog 14 (fun e => [(e 0).ptr 0, .agg #[o]]) [[v]] h (RetC fun r c h' => (∃ b, r = .bool b) ∧ ∃ v' ws' fp', c = [v'] ∧ SetIs h' v' ws' fp' ∧ (∀ y, hasW ws' y = (hasW ws y || hasW wo y)) ∧ KeptH h h' fp ∧ ∀ x ∈ fp', x ∈ fp ∨ h x = none) := by
  refine c14k (G := [v, o]) ⟨hs.fit, ho.fit, trivial⟩ ?_
  have hwd := rowF_words hs.1
  refine h_call0 (s33 hwd hs.2.1 hs.2.2 h7) ?_
  rintro _ g1 ⟨e1, rfl⟩
  have e1' := e1.symm
  subst e1'
  refine ⟨[.int .i64 ((((List.range 7).filter (hasW ws)).length : Nat) : Int)], ⟨⟨_, rfl⟩, trivial⟩, rfl, ?_⟩
  simp only [List.cons_append, List.nil_append]
  refine h_call0 (s23 ht ho hwo hlo) ?_
  rintro vl g2 ⟨hl2, hall⟩
  have hil := hall.ints.len
  rw [List.length_map] at hil
  refine ⟨[vl], ⟨hall.ints.fit, trivial⟩, rfl, ?_⟩
  simp only [List.cons_append, List.nil_append]
  have hlive := hs.live
  have hs2 : SetIs g2 v ws fp := hs.agree (hl2.kept.agree hlive fun b _ => by simp)
  obtain ⟨hb, hbd⟩ : ∃ hb, hb = H.cut g2 fp := ⟨_, rfl⟩
  have hbl : hb.le g2 := by rw [hbd]; exact H.cut_le _ _
  have hfb : Fresh hb fp := by rw [hbd]; exact H.cut_fresh _ _
  have hA : IntsAt hb vl ((allW wo).map Int.ofNat) := by rw [hbd]; exact OwnInts.ints (Row.cut hall hlive)
  have hal : (allW wo).length ≤ 4096 := by
    unfold allW
    have := List.length_filter_le (hasW wo) (List.range (64 * wo.length))
    rw [List.length_range] at this; omega
  refine h_loop (fun xs h5 => ∃ (i : Nat) (v5 : Value) (ws5 : List Int) (f5 : List Nat), xs = [.int .i64 (i : Int), v5] ∧ i ≤ (allW wo).length ∧ SetIs h5 v5 ws5 f5 ∧ (∀ y, hasW ws5 y = (hasW ws y || decide (y ∈ (allW wo).take i))) ∧ KeptH g2 h5 fp ∧ (∀ x ∈ f5, x ∈ fp ∨ g2 x = none))
    (fun xs h' => ((allW wo).length - vi (gv xs 0)).toNat) ⟨0, v, ws, fp, rfl, by omega, hs2, (fun y => by simp), KeptH.refl _ _, fun x hx => .inl hx⟩ ?_
  rintro xs h5 J - ⟨i, v5, ws5, f5, rfl, hi, hs5, hw5, hk5, hn5⟩ hJ
  simp only [List.cons_append, List.nil_append]
  have hb5 : hb.le h5 := hk5.le hbl hfb
  refine h_ite (fun hc => ?_) (fun hc => ?_)
  · replace hc : cmpOp .lss (i : Int) ((vlen vl : Nat) : Int) = true := hc
    rw [hil, cmp_lss, decide_eq_true_eq] at hc
    have hil' : i < (allW wo).length := by omega
    have hx : (allW wo)[i]? = some (allW wo)[i] := List.getElem?_eq_getElem hil'
    have hxm : (allW wo)[i] ∈ allW wo := List.getElem_mem _
    generalize (allW wo)[i] = x at hx hxm
    have hx7 := ho7 x (mem_allW.1 hxm)
    have hxI : ((allW wo).map Int.ofNat)[i]? = some (x : Int) := by rw [List.getElem?_map, hx]; rfl
    refine ⟨fun _ => ⟨ge0 i, by show cmpOp .lss (i : Int) ((vlen vl : Nat) : Int) = true; rw [hil]; exact ltN hil', trivial⟩, h_load [.int .i64 (x : Int)] ⟨⟨_, rfl⟩, trivial⟩ (fun _ => (hA.le hb5).read hxI) ?_⟩
    simp only [List.cons_append, List.nil_append]
    refine h_call1 (Q := fun r c h2 => r = .bool (!hasW ws5 x) ∧ ∃ v' ws' fp', c = [v'] ∧ SetIs h2 v' ws' fp' ∧ (∀ y, hasW ws' y = (hasW ws5 y || decide (y = x))) ∧ KeptH h5 h2 f5 ∧ ∀ b ∈ fp', b ∈ f5 ∨ h5 b = none) (s19k (x := x) hs5 (by omega)) ?_
    rintro _ c h6 ⟨rfl, v6, ws6, f6, rfl, hs6, hw6, hk6, hn6⟩
    refine ⟨⟨hs6.fit, trivial⟩, [.bool (!hasW ws5 x)], ⟨⟨_, rfl⟩, trivial⟩, rfl, ?_⟩
    obtain ⟨q1, q2⟩ := kept_chain hk5 hn5 hk6 hn6
    show J [.int .i64 (intOp .add .i64 (i : Int) 1), v6] h6
    rw [int_add_one (n := 5000) (by omega) (by omega)]
    refine hJ _ _ ⟨i + 1, v6, ws6, f6, rfl, by omega, hs6, fun y => ?_, q1, q2⟩ ?_
    · rw [hw6, hw5, List.take_add_one, hx]
      simp only [Option.toList_some, List.mem_append, List.mem_singleton, Bool.decide_or, Bool.or_assoc]
    · simp only [gv_zero, vi_int]; omega
  · replace hc : cmpOp .lss (i : Int) ((vlen vl : Nat) : Int) = false := hc
    rw [hil, cmp_lss, decide_eq_false_iff_not] at hc
    have hie : i = (allW wo).length := by omega
    have hfin : ∀ y, hasW ws5 y = (hasW ws y || hasW wo y) := fun y => by
      rw [hw5, hie, List.take_length]
      congr 1
      cases e : hasW wo y with
      | true => simpa using mem_allW.2 e
      | false =>
        have : y ∉ allW wo := fun q => by rw [mem_allW.1 q] at e; cases e
        simpa using this
    refine h_call0 (s33 (rowF_words hs5.1) hs5.2.1 hs5.2.2 (fun y hy => by
      rw [hfin, Bool.or_eq_true] at hy
      rcases hy with q | q
      · exact h7 y q
      · exact ho7 y q)) ?_
    rintro _ g7 ⟨e7, rfl⟩
    have e7' := e7.symm
    subst e7'
    refine ⟨[.int .i64 ((((List.range 7).filter (hasW ws5)).length : Nat) : Int)], ⟨⟨_, rfl⟩, trivial⟩, rfl, ?_⟩
    obtain ⟨q1, q2⟩ := kept_chain (f := fp) (f1 := fp) (hl2.kept.mono (by simp)) (fun b hb => .inl hb) hk5 hn5
    exact ⟨_, rfl, ⟨_, rfl⟩, v5, ws5, f5, rfl, hs5, hfin, q1, q2⟩
theorem s15 {h : H} {v o : Value} {ws wo : List Int} (ht : Tab h) (hv : WordsAt h v ws) (hw : InW ws) (hl : ws.length ≤ 64) (ho : WordsAt h o wo) (hwo : InW wo) (hlo : wo.length ≤ 64) :
    CallsA Tryd.prog 15 (fun _ => [.agg #[v], .agg #[o]]) [] h (Ret fun r h' => h.le h' ∧ r = .bool (decide (allW ws = allW wo))) := by
  refine c15 (G := [v, o]) ⟨hv.fit, ho.fit, trivial⟩ ?_
  refine h_call0 (s23 ht hv hw hl) ?_
  rintro u1 g1 ⟨hl1, h1⟩
  refine ⟨[u1], ⟨h1.ints.fit, trivial⟩, rfl, ?_⟩
  simp only [List.cons_append, List.nil_append]
  refine h_call0 (s23 (ht.le hl1) (SlAt.le u64C_mono hl1 ho) hwo hlo) ?_
  rintro u2 g2 ⟨hl2, h2⟩
  refine ⟨[u2], ⟨h2.ints.fit, trivial⟩, rfl, ?_⟩
  simp only [List.cons_append, List.nil_append]
  have hal : (allW ws).length ≤ 4096 := by
    unfold allW
    have := List.length_filter_le (hasW ws) (List.range (64 * ws.length))
    rw [List.length_range] at this; omega
  refine h_call0 (s51 (h1.ints.le hl2) h2.ints (by rw [List.length_map]; omega)) ?_
  rintro _ g3 ⟨e3, rfl⟩
  refine ⟨[.bool (decide ((allW ws).map Int.ofNat = (allW wo).map Int.ofNat))], ⟨⟨_, rfl⟩, trivial⟩, rfl, rfl, by rw [e3]; exact hl1.trans hl2, ?_⟩
  show Value.bool (decide ((allW ws).map Int.ofNat = (allW wo).map Int.ofNat)) = _
  congr 1
  apply decide_eq_decide.2
  exact ⟨fun e => (List.map_inj_right (fun a b q => by have : (a : Int) = (b : Int) := q; omega)).1 e, fun e => by rw [e]⟩
end Go.Proofs.YtgcaicdmjbkplaaDoor
