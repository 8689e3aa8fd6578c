/-
  Sets of small numbers as words of bits. Conditions: as each contract says.
-/
import Derived.Test.YtbgfabppmobpgaaDoorR4Q
set_option linter.unusedVariables false
set_option linter.unusedSimpArgs false
namespace Go.Proofs.YtbgfabppmobpgaaDoor
open Go

/-! ### Words of bits -/
def InW (ws : List Int) : Prop := ∀ w ∈ ws, 0 ≤ w ∧ w < 18446744073709551616
def hasW (ws : List Int) (x : Nat) : Bool := (ws.getD (x / 64) 0).toNat.testBit (x % 64)
def U64C (_ : H) (cs : List Value) (n : Int) : Prop := cs = [.int .u64 n]
theorem u64C_mono : Mono U64C := fun _ _ _ _ _ h => h
abbrev WordsAt := SlAt 1 U64C
theorem WordsAt.read {h : H} {v : Value} {l : List Int} (H : WordsAt h v l) {i : Nat} {x : Int} (hi : l[i]? = some x) : Reads h ((vaddr v).add (i * 1)) [.int .u64 x] := by
  obtain ⟨cs, rfl, h2⟩ := H.get i x hi; exact h2
theorem rowF_words {h : H} {e : TypeId} {u : Value} {l : List Int} {fp : List Nat} (k : RowF h e 1 u (l.map (.int .u64)) fp) : WordsAt h u l := by
  refine ⟨k.row0.fit, by have := k.row0.len; simp at this; exact this.symm, fun i x hi => ⟨_, rfl, k.row0.reads fun j u hj => ?_⟩⟩
  cases j with
  | zero => simp at hj; subst hj; simp [hi]
  | succ j => simp at hj
theorem wrap_u64 {n : Nat} (h : n < 18446744073709551616) : IntKind.u64.wrap (n : Int) = n := by
  simp [IntKind.wrap, IntKind.bits, IntKind.signed]; omega
theorem bit_shr {w : Nat} {s : Nat} (hs : s < 64) : intOp .shr .u64 (w : Int) (s : Int) = ((w >>> s : Nat) : Int) := by
  simp only [intOp, IntKind.bits, Int.toNat_natCast]
  rw [Nat.min_eq_left (by omega), Nat.shiftRight_eq_div_pow]
  have : ((2 : Int) ^ s) = ((2 ^ s : Nat) : Int) := by simp
  rw [this, Int.fdiv_eq_ediv_of_nonneg _ (Int.natCast_nonneg _)]; rfl
theorem bit_and1 (n : Nat) : intOp .and .u64 (n : Int) 1 = ((n % 2 : Nat) : Int) := by
  have e : (BitVec.ofInt 64 (n : Int) &&& BitVec.ofInt 64 1).toNat = n % 2 := by
    rw [BitVec.toNat_and]
    have h1 : (BitVec.ofInt 64 (n : Int)).toNat = n % 2 ^ 64 := by simp [BitVec.toNat_ofInt]
    have h2 : (BitVec.ofInt 64 1).toNat = 1 := by decide
    rw [h1, h2, Nat.and_one_is_mod]; omega
  show IntKind.u64.wrap ((BitVec.ofInt 64 (n : Int) &&& BitVec.ofInt 64 1).toNat : Int) = _
  rw [e]
  exact wrap_u64 (by omega)
theorem bit_shl {s : Nat} (hs : s < 64) : intOp .shl .u64 1 (s : Int) = ((2 ^ s : Nat) : Int) := by
  have hp : 2 ^ s < 18446744073709551616 := by
    have : 2 ^ s < 2 ^ 64 := Nat.pow_lt_pow_right (by omega) hs
    exact this
  simp only [intOp, IntKind.bits, Int.toNat_natCast, Int.one_mul]
  rw [Nat.min_eq_left (by omega)]
  have : ((2 : Int) ^ s) = ((2 ^ s : Nat) : Int) := by simp
  rw [this]; exact wrap_u64 hp
theorem bit_or {a b : Nat} (ha : a < 18446744073709551616) (hb : b < 18446744073709551616) : intOp .or .u64 (a : Int) (b : Int) = ((a ||| b : Nat) : Int) ∧ a ||| b < 18446744073709551616 := by
  have hlt : a ||| b < 2 ^ 64 := Nat.or_lt_two_pow ha hb
  refine ⟨?_, hlt⟩
  have e : (BitVec.ofInt 64 (a : Int) ||| BitVec.ofInt 64 (b : Int)).toNat = a ||| b := by
    rw [BitVec.toNat_or]
    have h1 : ∀ n : Nat, n < 18446744073709551616 → (BitVec.ofInt 64 (n : Int)).toNat = n := fun n hn => by simp [BitVec.toNat_ofInt]; omega
    rw [h1 a ha, h1 b hb]
  show IntKind.u64.wrap ((BitVec.ofInt 64 (a : Int) ||| BitVec.ofInt 64 (b : Int)).toNat : Int) = _
  rw [e]
  exact wrap_u64 hlt
theorem bit_test {w : Int} {s : Nat} (hw : 0 ≤ w ∧ w < 18446744073709551616) (hs : s < 64) : intOp .and .u64 (intOp .shr .u64 w (s : Int)) 1 = if w.toNat.testBit s then 1 else 0 := by
  obtain ⟨n, rfl⟩ : ∃ n : Nat, w = n := ⟨w.toNat, by omega⟩
  rw [bit_shr hs, bit_and1, Int.toNat_natCast, Nat.testBit_eq_decide_div_mod_eq, Nat.shiftRight_eq_div_pow]
  by_cases h : n / 2 ^ s % 2 = 1
  · simp [h]
  · have : n / 2 ^ s % 2 = 0 := by omega
    simp [this]
theorem bit_set {w : Int} {s : Nat} (hw : 0 ≤ w ∧ w < 18446744073709551616) (hs : s < 64) : ∃ n : Nat, intOp .or .u64 w (intOp .shl .u64 1 (s : Int)) = (n : Int) ∧ n < 18446744073709551616 ∧ ∀ y, n.testBit y = (w.toNat.testBit y || decide (y = s)) := by
  obtain ⟨n, rfl⟩ : ∃ n : Nat, w = n := ⟨w.toNat, by omega⟩
  have hp : 2 ^ s < 18446744073709551616 := by
    have : 2 ^ s < 2 ^ 64 := Nat.pow_lt_pow_right (by omega) hs
    exact this
  obtain ⟨h1, h2⟩ := bit_or (a := n) (b := 2 ^ s) (by omega) hp
  refine ⟨n ||| 2 ^ s, by rw [bit_shl hs, h1], h2, fun y => ?_⟩
  rw [Nat.testBit_or, Int.toNat_natCast, Nat.testBit_two_pow]
  congr 1
  by_cases h : s = y
  · subst h; simp
  · have h' : ¬ y = s := fun e => h e.symm
    simp [h, h']
theorem hasW_pad (ws : List Int) (j x : Nat) : hasW (ws ++ List.replicate j 0) x = hasW ws x := by
  unfold hasW
  congr 2
  rw [List.getD_eq_getElem?_getD, List.getD_eq_getElem?_getD]
  by_cases h : x / 64 < ws.length
  · rw [List.getElem?_append_left h]
  · rw [List.getElem?_append_right (by omega), List.getElem?_replicate, List.getElem?_eq_none (l := ws) (by omega)]
    split <;> rfl
theorem hasW_set {ws : List Int} {x n : Nat} {w : Int} (hx : ws[x / 64]? = some w) (hn : ∀ y, n.testBit y = (w.toNat.testBit y || decide (y = x % 64))) (y : Nat) : hasW (ws.set (x / 64) (n : Int)) y = (hasW ws y || decide (y = x)) := by
  obtain ⟨hlt, hw⟩ := List.getElem?_eq_some_iff.1 hx
  unfold hasW
  rw [List.getD_eq_getElem?_getD, List.getD_eq_getElem?_getD, List.getElem?_set]
  by_cases h : x / 64 = y / 64
  · rw [if_pos h, if_pos (by omega), ← h, hx]
    simp only [Option.getD_some, Int.toNat_natCast, hn]
    congr 1
    by_cases e : y = x
    · subst e; simp
    · have : y % 64 ≠ x % 64 := by omega
      simp [e, this]
  · rw [if_neg h]
    have : y ≠ x := fun e => h (by rw [e])
    simp [this]
/-- A set, in words of its own. -/
def SetIs (h : H) (v : Value) (ws : List Int) (fp : List Nat) : Prop := RowF h 79 1 v (ws.map (.int .u64)) fp ∧ InW ws ∧ ws.length ≤ 64
theorem SetIs.agree {h h' : H} {v : Value} {ws : List Int} {fp : List Nat} (ha : Agree h h' fp) (H : SetIs h v ws fp) : SetIs h' v ws fp := ⟨H.1.agree ha, H.2⟩
theorem quo_64 {x : Nat} (hx : x < 4096) : intOp .quo .i64 (x : Int) 64 = ((x / 64 : Nat) : Int) := by
  simp only [intOp]
  rw [show ((x : Int).tdiv 64) = ((x / 64 : Nat) : Int) by rw [Int.tdiv_eq_ediv_of_nonneg (by omega)]; omega, wrap_i64 (by omega) (by omega)]
theorem rem_64 {x : Nat} : intOp .rem .i64 (x : Int) 64 = ((x % 64 : Nat) : Int) := by
  simp only [intOp]; rw [Int.tmod_eq_emod_of_nonneg (by omega)]; omega
theorem s44 {h : H} {v : Value} {ws : List Int} {x : Nat} (hv : WordsAt h v ws) (hw : InW ws) (hx : x < 4096) :
    CallsA Tryd.prog 44 (fun _ => [.agg #[v], .int .i64 (x : Int)]) [] h (Ret fun r h' => h' = h ∧ r = .bool (hasW ws x)) := by
  refine c44 (G := [v, .int .i64 (x : Int)]) ⟨hv.fit, ⟨_, rfl⟩, trivial⟩ ?_
  have hl := hv.len
  have hg : (0 : Int) ≤ (x : Int) := by omega
  by_cases hlt : x / 64 < ws.length
  · have hi : ws[x / 64]? = some ws[x / 64] := List.getElem?_eq_getElem hlt
    have hm : ws[x / 64] ∈ ws := List.getElem_mem _
    have hgd : ws.getD (x / 64) 0 = ws[x / 64] := by rw [List.getD_eq_getElem?_getD, hi]; rfl
    generalize ws[x / 64] = w at hi hm hgd
    refine ⟨fun _ => ?_, h_load [.int .u64 w] ⟨⟨_, rfl⟩, trivial⟩ (fun _ => ?_) ⟨fun _ => ?_, rfl, rfl, ?_⟩⟩
    · simp only [needs, X.den, gv_zero, gv_succ, vi_int, vb_bool, quo_64 hx, hl, cmp_geq, cmp_lss, decide_eq_true_eq, and_true]; omega
    · have := hv.read hi
      simp only [PE.den, X.den, gv_zero, gv_succ, vi_int, quo_64 hx, Int.toNat_natCast]; exact this
    · simp only [needs, X.den, gv_zero, gv_succ, List.cons_append, vi_int, vb_bool, rem_64, cmp_geq, decide_eq_true_eq, and_true]; omega
    · simp only [SV.den, X.den, List.cons_append, List.nil_append, gv_zero, gv_succ, vi_int, vb_ite, vb_bool, quo_64 hx, rem_64, hl, cmp_geq, cmp_lss, cmp_eql, bit_test (hw w hm) (Nat.mod_lt x (by decide : 0 < 64)), decide_eq_true_eq]
      rw [if_pos hg]
      have : ((x / 64 : Nat) : Int) < (ws.length : Int) := by omega
      simp only [this, decide_true, if_true]
      unfold hasW
      rw [hgd]
      cases w.toNat.testBit (x % 64) <;> simp
  · have hf : ∀ D : List Value, vb ((X.ite (.cmp .geq (.var 1) (.lit 0)) (.cmp .lss (.op .quo .i64 (.var 1) (.lit 64)) (.len 0)) (.tt false)).den (v :: .int .i64 (x : Int) :: D)) = false := fun D => by
      simp only [X.den, gv_zero, gv_succ, vi_int, vb_ite, vb_bool, quo_64 hx, hl, cmp_geq, cmp_lss, decide_eq_true_eq]
      rw [if_pos hg]; simp; omega
    refine ⟨fun q => absurd q (by rw [hf]; simp), h_load [.int .u64 0] ⟨⟨_, rfl⟩, trivial⟩ (fun q => absurd q (by rw [hf]; simp)) ⟨fun q => absurd q (by simp only [List.cons_append, List.nil_append]; rw [hf]; simp), rfl, rfl, ?_⟩⟩
    simp only [SV.den, List.cons_append, List.nil_append]
    have : ∀ (D : List Value) (c : X), vb ((X.ite (.ite (.cmp .geq (.var 1) (.lit 0)) (.cmp .lss (.op .quo .i64 (.var 1) (.lit 64)) (.len 0)) (.tt false)) c (.tt false)).den (v :: .int .i64 (x : Int) :: D)) = false := fun D c => by
      have := hf D
      show vb (if vb (X.den _ _) = true then _ else Value.bool false) = false
      rw [if_neg (by rw [this]; simp)]; rfl
    rw [this]
    unfold hasW
    rw [List.getD_eq_getElem?_getD, List.getElem?_eq_none (by omega)]
    simp
theorem zero_u64 : (zeroCells Tryd.prog 79).getD [] = [.int .u64 0] := by kernel_rfl
theorem s32k {h : H} {v : Value} {ws : List Int} {fp : List Nat} {x : Nat} (hs : SetIs h v ws fp) (hx : x < 4096) :
    CallsA Tryd.prog 32 (fun e => [(e 0).ptr 0, .int .i64 (x : Int)]) [[v]] h (RetC fun r c h' => r = .bool (!hasW ws x) ∧ ∃ v' ws' fp', c = [v'] ∧ SetIs h' v' ws' fp' ∧ (∀ y, hasW ws' y = (hasW ws y || decide (y = x))) ∧ KeptH h h' fp ∧ ∀ b ∈ fp', b ∈ fp ∨ h b = none) := by
  obtain ⟨hrow, hw, hl⟩ := hs
  have hwd := rowF_words hrow
  refine c32k (G := [v, .int .i64 (x : Int)]) ⟨hwd.fit, ⟨_, rfl⟩, trivial⟩ ?_
  refine h_ite (fun _ => ?_) (fun hc => ?_)
  · refine h_call0 (s44 hwd hw hx) ?_
    rintro _ h1 ⟨e1, rfl⟩
    have e1' := e1.symm
    subst e1'
    refine ⟨[.bool (hasW ws x)], ⟨⟨_, rfl⟩, trivial⟩, rfl, h_ite (fun hc => ?_) (fun hc => ?_)⟩
    · replace hc : hasW ws x = true := hc
      refine ⟨_, rfl, by rw [hc]; rfl, v, ws, fp, rfl, ⟨hrow, hw, hl⟩, fun y => ?_, KeptH.refl _ _, fun b hb => .inl hb⟩
      by_cases e : y = x
      · subst e; simp [hc]
      · simp [e]
    · replace hc : hasW ws x = false := hc
      simp only [List.cons_append, List.nil_append]
      refine h_loop (fun xs h' => ∃ v3 j f3, xs = [v3] ∧ SetIs h' v3 (ws ++ List.replicate j 0) f3 ∧ KeptH h h' fp ∧ ∀ b ∈ f3, b ∈ fp ∨ h b = none) (fun xs h' => 100 - vlen (gv xs 0))
        ⟨v, 0, fp, rfl, by rw [show List.replicate 0 (0 : Int) = [] from rfl, List.append_nil]; exact ⟨hrow, hw, hl⟩, KeptH.refl _ _, fun b hb => .inl hb⟩ ?_
      rintro xs h' J - ⟨v3, j, f3, rfl, ⟨r3, w3, l3⟩, k3, n3⟩ hJ
      have hwd3 := rowF_words r3
      have hl3 := hwd3.len
      refine h_ite (fun hc2 => ?_) (fun hc2 => ?_)
      · simp only [X.den, List.cons_append, List.nil_append, gv_zero, gv_succ, vi_int, vb_bool, quo_64 hx, hl3, cmp_leq, decide_eq_true_eq] at hc2
        refine ⟨[.int .u64 0], 1, ⟨rfl, rfl⟩, ?_⟩
        show AppSpec _ _ _ _ _ v3 _ _ _
        refine app_rowF r3 rfl (by rw [zero_u64]; rfl) (by rw [hl3]; omega) fun v' h4 f4 m1 m2 m3 m4 => ?_
        have m4' : ∀ b ∈ f4, b ∈ f3 ∨ h' b = none := fun b hb => by
          rcases m4 with rfl | ⟨b', rfl, hb'⟩
          · exact .inl hb
          · rw [List.mem_singleton] at hb; subst hb; exact .inr hb'
        obtain ⟨q1, q2⟩ := kept_chain k3 n3 m3 m4'
        refine hJ _ _ ⟨v', j + 1, f4, rfl, ⟨?_, fun w hw' => ?_, ?_⟩, q1, q2⟩ ?_
        · rw [List.replicate_succ', ← List.append_assoc, List.map_append]; exact m1
        · rw [List.replicate_succ', ← List.append_assoc, List.mem_append] at hw'
          rcases hw' with q | q
          · exact w3 w q
          · simp at q; omega
        · have : (ws ++ List.replicate (j + 1) (0 : Int)).length = (ws ++ List.replicate j (0 : Int)).length + 1 := by simp; omega
          omega
        · show 100 - vlen v' < 100 - vlen v3
          rw [m2, hl3]; omega
      · simp only [X.den, List.cons_append, List.nil_append, gv_zero, gv_succ, vi_int, vb_bool, quo_64 hx, hl3, cmp_leq, decide_eq_false_iff_not] at hc2
        obtain ⟨W, hW⟩ : ∃ W, W = ws ++ List.replicate j (0 : Int) := ⟨_, rfl⟩
        rw [← hW] at r3 w3 l3 hwd3 hl3 hc2
        have hlt : x / 64 < W.length := by omega
        have hi : W[x / 64]? = some W[x / 64] := List.getElem?_eq_getElem hlt
        have hm : W[x / 64] ∈ W := List.getElem_mem _
        generalize W[x / 64] = w at hi hm
        obtain ⟨n, e1, e2, e3⟩ := bit_set (w3 w hm) (Nat.mod_lt x (by decide : 0 < 64))
        have hsp : W.map (Value.int .u64) = (W.take (x / 64)).map (.int .u64) ++ [.int .u64 w] ++ (W.drop (x / 64 + 1)).map (.int .u64) := by
          obtain ⟨hlt', rfl⟩ := List.getElem?_eq_some_iff.1 hi
          conv => lhs; rw [← List.take_append_drop (x / 64) W, List.drop_eq_getElem_cons hlt']
          simp only [List.map_append, List.map_cons, List.append_assoc, List.cons_append, List.nil_append]
        have hsp' : (W.set (x / 64) (n : Int)).map (Value.int .u64) = (W.take (x / 64)).map (.int .u64) ++ [.int .u64 (n : Int)] ++ (W.drop (x / 64 + 1)).map (.int .u64) := by
          rw [List.set_eq_take_append_cons_drop, if_pos hlt]
          simp only [List.map_append, List.map_cons, List.append_assoc, List.cons_append, List.nil_append]
        have hal : ((W.take (x / 64)).map (Value.int .u64)).length = x / 64 := by simp; omega
        have r3' := r3
        rw [hsp] at r3'
        obtain ⟨s1, s2⟩ := set_rowF (N := [Value.int .u64 (n : Int)]) r3' rfl (by simp)
        rw [hal, ← hsp'] at s1
        rw [hal] at s2
        have nd : ∀ D : List Value, needs (v :: .int .i64 (x : Int) :: .bool (hasW ws x) :: v3 :: D) [(.cmp .geq (.op .quo .i64 (.var 1) (.lit 64)) (.lit 0)), (.cmp .lss (.op .quo .i64 (.var 1) (.lit 64)) (.len 3))] := fun D => by
          simp only [needs, X.den, gv_zero, gv_succ, vi_int, vb_bool, quo_64 hx, hl3, cmp_geq, cmp_lss, decide_eq_true_eq, and_true]; omega
        refine ⟨fun _ => nd _, h_load [.int .u64 w] ⟨⟨_, rfl⟩, trivial⟩ (fun _ => ?_) ⟨fun _ => ?_, fun _ => nd _, ?_⟩⟩
        · have := hwd3.read hi
          simp only [PE.den, X.den, List.cons_append, List.nil_append, gv_zero, gv_succ, vi_int, quo_64 hx, Int.toNat_natCast]; exact this
        · simp only [needs, X.den, gv_zero, gv_succ, List.cons_append, vi_int, vb_bool, rem_64, cmp_geq, decide_eq_true_eq, and_true]; omega
        · refine h_store ((vaddr v3).add (x / 64)) [.int .u64 (n : Int)] ?_ ?_ ?_ ?_
          · simp only [PE.den, X.den, List.cons_append, List.nil_append, gv_zero, gv_succ, vi_int, quo_64 hx, Int.toNat_natCast, Nat.mul_one]
          · simp only [SV.denL, SV.den, X.den, List.cons_append, List.nil_append, gv_zero, gv_succ, vi_int, rem_64, e1]
          · refine r3'.row0.writable ?_
            have e1' := r3'.row0.len
            obtain ⟨aa, nn, cc, e0, _, e3'⟩ := r3'.row0.fit
            rw [e0] at hl3 ⊢
            simp only [vlen_sl] at hl3
            simp only [vcap_sl, List.length_cons, List.length_nil]
            omega
          · have m3 : KeptH h' (h'.sets ((vaddr v3).add (x / 64)) [.int .u64 (n : Int)]) f3 := fun b hb _ => s2 b hb
            obtain ⟨q1, q2⟩ := kept_chain k3 n3 m3 (fun b hb => .inl hb)
            refine ⟨_, rfl, by rw [hc]; rfl, v3, W.set (x / 64) (n : Int), f3, rfl, ⟨s1, fun w' hw' => ?_, by rw [List.length_set]; exact l3⟩, fun y => ?_, q1, q2⟩
            · rcases List.mem_or_eq_of_mem_set hw' with q | q
              · exact w3 w' q
              · subst q; omega
            · rw [hasW_set hi e3, hW, hasW_pad]
  · simp only [X.den, gv_zero, gv_succ, vi_int, vb_ite, vb_bool, cmp_lss, cmp_geq, decide_eq_true_eq] at hc
    rw [if_neg (by omega)] at hc
    simp at hc
    omega
/-! ### Queues -/
/-! ### Which blocks follow -/
theorem SetIs.live {h : H} {v : Value} {ws : List Int} {fp : List Nat} (H : SetIs h v ws fp) : Live h fp := H.1.live
theorem SetIs.fit {h : H} {v : Value} {ws : List Int} {fp : List Nat} (H : SetIs h v ws fp) : Fits .sl v := H.1.row0.fit
end Go.Proofs.YtbgfabppmobpgaaDoor
