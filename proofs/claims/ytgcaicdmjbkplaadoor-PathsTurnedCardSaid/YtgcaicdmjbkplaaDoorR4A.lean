/-
  Sets of small numbers as words of bits, queues, and which blocks follow an end. Conditions: as each contract says.
-/
import Derived.Test.YtgcaicdmjbkplaaDoorMr
import Derived.Test.YtgcaicdmjbkplaaDoorMapL
set_option linter.unusedVariables false
set_option linter.unusedSimpArgs false
namespace Go.Proofs.YtgcaicdmjbkplaaDoor
open Go

theorem H.le.kept {h h' : H} (hl : h.le h') : KeptH h h' [] := fun b _ hb => by
  obtain ⟨o, ho⟩ := Option.isSome_iff_exists.1 hb
  rw [hl b o ho, ho]
theorem kept_chain {h h1 h2 : H} {f f1 f2 : List Nat} (a : KeptH h h1 f) (a' : ∀ b ∈ f1, b ∈ f ∨ h b = none) (b : KeptH h1 h2 f1) (b' : ∀ x ∈ f2, x ∈ f1 ∨ h1 x = none) : KeptH h h2 f ∧ ∀ x ∈ f2, x ∈ f ∨ h x = none := by
  constructor
  · intro x hx hs
    have e := a x hx hs
    rw [b x (fun hf => by
      rcases a' x hf with q | q
      · exact hx q
      · rw [q] at hs; cases hs) (by rw [e]; exact hs), e]
  · intro x hx
    rcases b' x hx with q | q
    · exact a' x q
    · by_cases hf : x ∈ f
      · exact .inl hf
      · right
        cases e : h x with
        | none => rfl
        | some o =>
          have := a x hf (by rw [e]; rfl)
          rw [q, e] at this; cases this

/-! ### Words of bits -/
def InW (ws : List Int) : Prop := ∀ w ∈ ws, 0 ≤ w ∧ w < 18446744073709551616
def hasW (ws : List Int) (x : Nat) : Bool := (ws.getD (x / 64) 0).toNat.testBit (x % 64)
def U64C (_ : H) (cs : List Value) (n : Int) : Prop := cs = [.int .u64 n]
theorem u64C_mono : Mono U64C := fun _ _ _ _ _ h => h
abbrev WordsAt := SlAt 1 U64C
theorem WordsAt.read {h : H} {v : Value} {l : List Int} (H : WordsAt h v l) {i : Nat} {x : Int} (hi : l[i]? = some x) : Reads h ((vaddr v).add (i * 1)) [.int .u64 x] := by
  obtain ⟨cs, rfl, h2⟩ := H.get i x hi; exact h2
theorem rowF_words {h : H} {e : TypeId} {u : Value} {l : List Int} {fp : List Nat} (k : RowF h e 1 u (l.map (.int .u64)) fp) : WordsAt h u l := by
  refine ⟨k.row0.fit, by have := k.row0.len; simp at this; exact this.symm, fun i x hi => ⟨_, rfl, k.row0.reads fun j u hj => ?_⟩⟩
  cases j with
  | zero => simp at hj; subst hj; simp [hi]
  | succ j => simp at hj
theorem wrap_u64 {n : Nat} (h : n < 18446744073709551616) : IntKind.u64.wrap (n : Int) = n := by
  simp [IntKind.wrap, IntKind.bits, IntKind.signed]; omega
theorem bit_shr {w : Nat} {s : Nat} (hs : s < 64) : intOp .shr .u64 (w : Int) (s : Int) = ((w >>> s : Nat) : Int) := by
  simp only [intOp, IntKind.bits, Int.toNat_natCast]
  rw [Nat.min_eq_left (by omega), Nat.shiftRight_eq_div_pow]
  have : ((2 : Int) ^ s) = ((2 ^ s : Nat) : Int) := by simp
  rw [this, Int.fdiv_eq_ediv_of_nonneg _ (Int.natCast_nonneg _)]; rfl
theorem bit_and1 (n : Nat) : intOp .and .u64 (n : Int) 1 = ((n % 2 : Nat) : Int) := by
  have e : (BitVec.ofInt 64 (n : Int) &&& BitVec.ofInt 64 1).toNat = n % 2 := by
    rw [BitVec.toNat_and]
    have h1 : (BitVec.ofInt 64 (n : Int)).toNat = n % 2 ^ 64 := by simp [BitVec.toNat_ofInt]
    have h2 : (BitVec.ofInt 64 1).toNat = 1 := by decide
    rw [h1, h2, Nat.and_one_is_mod]; omega
  show IntKind.u64.wrap ((BitVec.ofInt 64 (n : Int) &&& BitVec.ofInt 64 1).toNat : Int) = _
  rw [e]
  exact wrap_u64 (by omega)
theorem bit_shl {s : Nat} (hs : s < 64) : intOp .shl .u64 1 (s : Int) = ((2 ^ s : Nat) : Int) := by
  have hp : 2 ^ s < 18446744073709551616 := by
    have : 2 ^ s < 2 ^ 64 := Nat.pow_lt_pow_right (by omega) hs
    exact this
  simp only [intOp, IntKind.bits, Int.toNat_natCast, Int.one_mul]
  rw [Nat.min_eq_left (by omega)]
  have : ((2 : Int) ^ s) = ((2 ^ s : Nat) : Int) := by simp
  rw [this]; exact wrap_u64 hp
theorem bit_or {a b : Nat} (ha : a < 18446744073709551616) (hb : b < 18446744073709551616) : intOp .or .u64 (a : Int) (b : Int) = ((a ||| b : Nat) : Int) ∧ a ||| b < 18446744073709551616 := by
  have hlt : a ||| b < 2 ^ 64 := Nat.or_lt_two_pow ha hb
  refine ⟨?_, hlt⟩
  have e : (BitVec.ofInt 64 (a : Int) ||| BitVec.ofInt 64 (b : Int)).toNat = a ||| b := by
    rw [BitVec.toNat_or]
    have h1 : ∀ n : Nat, n < 18446744073709551616 → (BitVec.ofInt 64 (n : Int)).toNat = n := fun n hn => by simp [BitVec.toNat_ofInt]; omega
    rw [h1 a ha, h1 b hb]
  show IntKind.u64.wrap ((BitVec.ofInt 64 (a : Int) ||| BitVec.ofInt 64 (b : Int)).toNat : Int) = _
  rw [e]
  exact wrap_u64 hlt
theorem bit_test {w : Int} {s : Nat} (hw : 0 ≤ w ∧ w < 18446744073709551616) (hs : s < 64) : intOp .and .u64 (intOp .shr .u64 w (s : Int)) 1 = if w.toNat.testBit s then 1 else 0 := by
  obtain ⟨n, rfl⟩ : ∃ n : Nat, w = n := ⟨w.toNat, by omega⟩
  rw [bit_shr hs, bit_and1, Int.toNat_natCast, Nat.testBit_eq_decide_div_mod_eq, Nat.shiftRight_eq_div_pow]
  by_cases h : n / 2 ^ s % 2 = 1
  · simp [h]
  · have : n / 2 ^ s % 2 = 0 := by omega
    simp [this]
theorem bit_set {w : Int} {s : Nat} (hw : 0 ≤ w ∧ w < 18446744073709551616) (hs : s < 64) : ∃ n : Nat, intOp .or .u64 w (intOp .shl .u64 1 (s : Int)) = (n : Int) ∧ n < 18446744073709551616 ∧ ∀ y, n.testBit y = (w.toNat.testBit y || decide (y = s)) := by
  obtain ⟨n, rfl⟩ : ∃ n : Nat, w = n := ⟨w.toNat, by omega⟩
  have hp : 2 ^ s < 18446744073709551616 := by
    have : 2 ^ s < 2 ^ 64 := Nat.pow_lt_pow_right (by omega) hs
    exact this
  obtain ⟨h1, h2⟩ := bit_or (a := n) (b := 2 ^ s) (by omega) hp
  refine ⟨n ||| 2 ^ s, by rw [bit_shl hs, h1], h2, fun y => ?_⟩
  rw [Nat.testBit_or, Int.toNat_natCast, Nat.testBit_two_pow]
  congr 1
  by_cases h : s = y
  · subst h; simp
  · have h' : ¬ y = s := fun e => h e.symm
    simp [h, h']
theorem hasW_pad (ws : List Int) (j x : Nat) : hasW (ws ++ List.replicate j 0) x = hasW ws x := by
  unfold hasW
  congr 2
  rw [List.getD_eq_getElem?_getD, List.getD_eq_getElem?_getD]
  by_cases h : x / 64 < ws.length
  · rw [List.getElem?_append_left h]
  · rw [List.getElem?_append_right (by omega), List.getElem?_replicate, List.getElem?_eq_none (l := ws) (by omega)]
    split <;> rfl
theorem hasW_set {ws : List Int} {x n : Nat} {w : Int} (hx : ws[x / 64]? = some w) (hn : ∀ y, n.testBit y = (w.toNat.testBit y || decide (y = x % 64))) (y : Nat) : hasW (ws.set (x / 64) (n : Int)) y = (hasW ws y || decide (y = x)) := by
  obtain ⟨hlt, hw⟩ := List.getElem?_eq_some_iff.1 hx
  unfold hasW
  rw [List.getD_eq_getElem?_getD, List.getD_eq_getElem?_getD, List.getElem?_set]
  by_cases h : x / 64 = y / 64
  · rw [if_pos h, if_pos (by omega), ← h, hx]
    simp only [Option.getD_some, Int.toNat_natCast, hn]
    congr 1
    by_cases e : y = x
    · subst e; simp
    · have : y % 64 ≠ x % 64 := by omega
      simp [e, this]
  · rw [if_neg h]
    have : y ≠ x := fun e => h (by rw [e])
    simp [this]
/-- A set, in words of its own. -/
def SetIs (h : H) (v : Value) (ws : List Int) (fp : List Nat) : Prop := RowF h 117 1 v (ws.map (.int .u64)) fp ∧ InW ws ∧ ws.length ≤ 64
theorem SetIs.agree {h h' : H} {v : Value} {ws : List Int} {fp : List Nat} (ha : Agree h h' fp) (H : SetIs h v ws fp) : SetIs h' v ws fp := ⟨H.1.agree ha, H.2⟩
theorem quo_64 {x : Nat} (hx : x < 4096) : intOp .quo .i64 (x : Int) 64 = ((x / 64 : Nat) : Int) := by
  simp only [intOp]
  rw [show ((x : Int).tdiv 64) = ((x / 64 : Nat) : Int) by rw [Int.tdiv_eq_ediv_of_nonneg (by omega)]; omega, wrap_i64 (by omega) (by omega)]
theorem rem_64 {x : Nat} : intOp .rem .i64 (x : Int) 64 = ((x % 64 : Nat) : Int) := by
  simp only [intOp]; rw [Int.tmod_eq_emod_of_nonneg (by omega)]; omega
theorem s16 {h : H} {v : Value} {ws : List Int} {x : Nat} (hv : WordsAt h v ws) (hw : InW ws) (hx : x < 4096) :
    CallsA Tryd.prog 16 (fun _ => [.agg #[v], .int .i64 (x : Int)]) [] h (Ret fun r h' => h' = h ∧ r = .bool (hasW ws x)) := by
  refine c16 (G := [v, .int .i64 (x : Int)]) ⟨hv.fit, ⟨_, rfl⟩, trivial⟩ ?_
  have hl := hv.len
  have hg : (0 : Int) ≤ (x : Int) := by omega
  by_cases hlt : x / 64 < ws.length
  · have hi : ws[x / 64]? = some ws[x / 64] := List.getElem?_eq_getElem hlt
    have hm : ws[x / 64] ∈ ws := List.getElem_mem _
    have hgd : ws.getD (x / 64) 0 = ws[x / 64] := by rw [List.getD_eq_getElem?_getD, hi]; rfl
    generalize ws[x / 64] = w at hi hm hgd
    refine ⟨fun _ => ?_, h_load [.int .u64 w] ⟨⟨_, rfl⟩, trivial⟩ (fun _ => ?_) ⟨fun _ => ?_, rfl, rfl, ?_⟩⟩
    · simp only [needs, X.den, gv_zero, gv_succ, vi_int, vb_bool, quo_64 hx, hl, cmp_geq, cmp_lss, decide_eq_true_eq, and_true]; omega
    · have := hv.read hi
      simp only [PE.den, X.den, gv_zero, gv_succ, vi_int, quo_64 hx, Int.toNat_natCast]; exact this
    · simp only [needs, X.den, gv_zero, gv_succ, List.cons_append, vi_int, vb_bool, rem_64, cmp_geq, decide_eq_true_eq, and_true]; omega
    · simp only [SV.den, X.den, List.cons_append, List.nil_append, gv_zero, gv_succ, vi_int, vb_ite, vb_bool, quo_64 hx, rem_64, hl, cmp_geq, cmp_lss, cmp_eql, bit_test (hw w hm) (Nat.mod_lt x (by decide : 0 < 64)), decide_eq_true_eq]
      rw [if_pos hg]
      have : ((x / 64 : Nat) : Int) < (ws.length : Int) := by omega
      simp only [this, decide_true, if_true]
      unfold hasW
      rw [hgd]
      cases w.toNat.testBit (x % 64) <;> simp
  · have hf : ∀ D : List Value, vb ((X.ite (.cmp .geq (.var 1) (.lit 0)) (.cmp .lss (.op .quo .i64 (.var 1) (.lit 64)) (.len 0)) (.tt false)).den (v :: .int .i64 (x : Int) :: D)) = false := fun D => by
      simp only [X.den, gv_zero, gv_succ, vi_int, vb_ite, vb_bool, quo_64 hx, hl, cmp_geq, cmp_lss, decide_eq_true_eq]
      rw [if_pos hg]; simp; omega
    refine ⟨fun q => absurd q (by rw [hf]; simp), h_load [.int .u64 0] ⟨⟨_, rfl⟩, trivial⟩ (fun q => absurd q (by rw [hf]; simp)) ⟨fun q => absurd q (by simp only [List.cons_append, List.nil_append]; rw [hf]; simp), rfl, rfl, ?_⟩⟩
    simp only [SV.den, List.cons_append, List.nil_append]
    have : ∀ (D : List Value) (c : X), vb ((X.ite (.ite (.cmp .geq (.var 1) (.lit 0)) (.cmp .lss (.op .quo .i64 (.var 1) (.lit 64)) (.len 0)) (.tt false)) c (.tt false)).den (v :: .int .i64 (x : Int) :: D)) = false := fun D c => by
      have := hf D
      show vb (if vb (X.den _ _) = true then _ else Value.bool false) = false
      rw [if_neg (by rw [this]; simp)]; rfl
    rw [this]
    unfold hasW
    rw [List.getD_eq_getElem?_getD, List.getElem?_eq_none (by omega)]
    simp
theorem zero_u64 : (zeroCells Tryd.prog 117).getD [] = [.int .u64 0] := by kernel_rfl
theorem s19k {h : H} {v : Value} {ws : List Int} {fp : List Nat} {x : Nat} (hs : SetIs h v ws fp) (hx : x < 4096) :
    CallsA Tryd.prog 19 (fun e => [(e 0).ptr 0, .int .i64 (x : Int)]) [[v]] h (RetC fun r c h' => r = .bool (!hasW ws x) ∧ ∃ v' ws' fp', c = [v'] ∧ SetIs h' v' ws' fp' ∧ (∀ y, hasW ws' y = (hasW ws y || decide (y = x))) ∧ KeptH h h' fp ∧ ∀ b ∈ fp', b ∈ fp ∨ h b = none) := by
  obtain ⟨hrow, hw, hl⟩ := hs
  have hwd := rowF_words hrow
  refine c19k (G := [v, .int .i64 (x : Int)]) ⟨hwd.fit, ⟨_, rfl⟩, trivial⟩ ?_
  refine h_ite (fun _ => ?_) (fun hc => ?_)
  · refine h_call0 (s16 hwd hw hx) ?_
    rintro _ h1 ⟨e1, rfl⟩
    have e1' := e1.symm
    subst e1'
    refine ⟨[.bool (hasW ws x)], ⟨⟨_, rfl⟩, trivial⟩, rfl, h_ite (fun hc => ?_) (fun hc => ?_)⟩
    · replace hc : hasW ws x = true := hc
      refine ⟨_, rfl, by rw [hc]; rfl, v, ws, fp, rfl, ⟨hrow, hw, hl⟩, fun y => ?_, KeptH.refl _ _, fun b hb => .inl hb⟩
      by_cases e : y = x
      · subst e; simp [hc]
      · simp [e]
    · replace hc : hasW ws x = false := hc
      simp only [List.cons_append, List.nil_append]
      refine h_loop (fun xs h' => ∃ v3 j f3, xs = [v3] ∧ SetIs h' v3 (ws ++ List.replicate j 0) f3 ∧ KeptH h h' fp ∧ ∀ b ∈ f3, b ∈ fp ∨ h b = none) (fun xs h' => 100 - vlen (gv xs 0))
        ⟨v, 0, fp, rfl, by rw [show List.replicate 0 (0 : Int) = [] from rfl, List.append_nil]; exact ⟨hrow, hw, hl⟩, KeptH.refl _ _, fun b hb => .inl hb⟩ ?_
      rintro xs h' J - ⟨v3, j, f3, rfl, ⟨r3, w3, l3⟩, k3, n3⟩ hJ
      have hwd3 := rowF_words r3
      have hl3 := hwd3.len
      refine h_ite (fun hc2 => ?_) (fun hc2 => ?_)
      · simp only [X.den, List.cons_append, List.nil_append, gv_zero, gv_succ, vi_int, vb_bool, quo_64 hx, hl3, cmp_leq, decide_eq_true_eq] at hc2
        refine ⟨[.int .u64 0], 1, ⟨rfl, rfl⟩, ?_⟩
        show AppSpec _ _ _ _ _ v3 _ _ _
        refine app_rowF r3 rfl (by rw [zero_u64]; rfl) (by rw [hl3]; omega) fun v' h4 f4 m1 m2 m3 m4 => ?_
        have m4' : ∀ b ∈ f4, b ∈ f3 ∨ h' b = none := fun b hb => by
          rcases m4 with rfl | ⟨b', rfl, hb'⟩
          · exact .inl hb
          · rw [List.mem_singleton] at hb; subst hb; exact .inr hb'
        obtain ⟨q1, q2⟩ := kept_chain k3 n3 m3 m4'
        refine hJ _ _ ⟨v', j + 1, f4, rfl, ⟨?_, fun w hw' => ?_, ?_⟩, q1, q2⟩ ?_
        · rw [List.replicate_succ', ← List.append_assoc, List.map_append]; exact m1
        · rw [List.replicate_succ', ← List.append_assoc, List.mem_append] at hw'
          rcases hw' with q | q
          · exact w3 w q
          · simp at q; omega
        · have : (ws ++ List.replicate (j + 1) (0 : Int)).length = (ws ++ List.replicate j (0 : Int)).length + 1 := by simp; omega
          omega
        · show 100 - vlen v' < 100 - vlen v3
          rw [m2, hl3]; omega
      · simp only [X.den, List.cons_append, List.nil_append, gv_zero, gv_succ, vi_int, vb_bool, quo_64 hx, hl3, cmp_leq, decide_eq_false_iff_not] at hc2
        obtain ⟨W, hW⟩ : ∃ W, W = ws ++ List.replicate j (0 : Int) := ⟨_, rfl⟩
        rw [← hW] at r3 w3 l3 hwd3 hl3 hc2
        have hlt : x / 64 < W.length := by omega
        have hi : W[x / 64]? = some W[x / 64] := List.getElem?_eq_getElem hlt
        have hm : W[x / 64] ∈ W := List.getElem_mem _
        generalize W[x / 64] = w at hi hm
        obtain ⟨n, e1, e2, e3⟩ := bit_set (w3 w hm) (Nat.mod_lt x (by decide : 0 < 64))
        have hsp : W.map (Value.int .u64) = (W.take (x / 64)).map (.int .u64) ++ [.int .u64 w] ++ (W.drop (x / 64 + 1)).map (.int .u64) := by
          obtain ⟨hlt', rfl⟩ := List.getElem?_eq_some_iff.1 hi
          conv => lhs; rw [← List.take_append_drop (x / 64) W, List.drop_eq_getElem_cons hlt']
          simp only [List.map_append, List.map_cons, List.append_assoc, List.cons_append, List.nil_append]
        have hsp' : (W.set (x / 64) (n : Int)).map (Value.int .u64) = (W.take (x / 64)).map (.int .u64) ++ [.int .u64 (n : Int)] ++ (W.drop (x / 64 + 1)).map (.int .u64) := by
          rw [List.set_eq_take_append_cons_drop, if_pos hlt]
          simp only [List.map_append, List.map_cons, List.append_assoc, List.cons_append, List.nil_append]
        have hal : ((W.take (x / 64)).map (Value.int .u64)).length = x / 64 := by simp; omega
        have r3' := r3
        rw [hsp] at r3'
        obtain ⟨s1, s2⟩ := set_rowF (N := [Value.int .u64 (n : Int)]) r3' rfl (by simp)
        rw [hal, ← hsp'] at s1
        rw [hal] at s2
        have nd : ∀ D : List Value, needs (v :: .int .i64 (x : Int) :: .bool (hasW ws x) :: v3 :: D) [(.cmp .geq (.op .quo .i64 (.var 1) (.lit 64)) (.lit 0)), (.cmp .lss (.op .quo .i64 (.var 1) (.lit 64)) (.len 3))] := fun D => by
          simp only [needs, X.den, gv_zero, gv_succ, vi_int, vb_bool, quo_64 hx, hl3, cmp_geq, cmp_lss, decide_eq_true_eq, and_true]; omega
        refine ⟨fun _ => nd _, h_load [.int .u64 w] ⟨⟨_, rfl⟩, trivial⟩ (fun _ => ?_) ⟨fun _ => ?_, fun _ => nd _, ?_⟩⟩
        · have := hwd3.read hi
          simp only [PE.den, X.den, List.cons_append, List.nil_append, gv_zero, gv_succ, vi_int, quo_64 hx, Int.toNat_natCast]; exact this
        · simp only [needs, X.den, gv_zero, gv_succ, List.cons_append, vi_int, vb_bool, rem_64, cmp_geq, decide_eq_true_eq, and_true]; omega
        · refine h_store ((vaddr v3).add (x / 64)) [.int .u64 (n : Int)] ?_ ?_ ?_ ?_
          · simp only [PE.den, X.den, List.cons_append, List.nil_append, gv_zero, gv_succ, vi_int, quo_64 hx, Int.toNat_natCast, Nat.mul_one]
          · simp only [SV.denL, SV.den, X.den, List.cons_append, List.nil_append, gv_zero, gv_succ, vi_int, rem_64, e1]
          · refine r3'.row0.writable ?_
            have e1' := r3'.row0.len
            obtain ⟨aa, nn, cc, e0, _, e3'⟩ := r3'.row0.fit
            rw [e0] at hl3 ⊢
            simp only [vlen_sl] at hl3
            simp only [vcap_sl, List.length_cons, List.length_nil]
            omega
          · have m3 : KeptH h' (h'.sets ((vaddr v3).add (x / 64)) [.int .u64 (n : Int)]) f3 := fun b hb _ => s2 b hb
            obtain ⟨q1, q2⟩ := kept_chain k3 n3 m3 (fun b hb => .inl hb)
            refine ⟨_, rfl, by rw [hc]; rfl, v3, W.set (x / 64) (n : Int), f3, rfl, ⟨s1, fun w' hw' => ?_, by rw [List.length_set]; exact l3⟩, fun y => ?_, q1, q2⟩
            · rcases List.mem_or_eq_of_mem_set hw' with q | q
              · exact w3 w' q
              · subst q; omega
            · rw [hasW_set hi e3, hW, hasW_pad]
  · simp only [X.den, gv_zero, gv_succ, vi_int, vb_ite, vb_bool, cmp_lss, cmp_geq, decide_eq_true_eq] at hc
    rw [if_neg (by omega)] at hc
    simp at hc
    omega
/-! ### Queues -/
def QRep (h : H) (vr vm : Value) (l : List Int) (fp : List Nat) : Prop := ∃ fr fm, fp = fr ++ fm ∧ (∀ b ∈ fr, b ∉ fm) ∧ RowG h 3 vr (l.map (.int .i64)) fr ∧ KeyMap h vm l fm
theorem QRep.agree {h h' : H} {vr vm : Value} {l : List Int} {fp : List Nat} (ha : Agree h h' fp) : QRep h vr vm l fp → QRep h' vr vm l fp := fun ⟨fr, fm, e, hd, h1, h2⟩ =>
  ⟨fr, fm, e, hd, h1.agree fun b hb => ha b (by rw [e]; simp [hb]), h2.agree fun b hb => ha b (by rw [e]; simp [hb])⟩
theorem QRep.live {h : H} {vr vm : Value} {l : List Int} {fp : List Nat} : QRep h vr vm l fp → Live h fp := fun ⟨fr, fm, e, hd, h1, h2⟩ b hb => by
  rw [e] at hb
  rcases List.mem_append.1 hb with q | q
  · exact h1.live b q
  · exact h2.live b q
theorem QRep.fits {h : H} {vr vm : Value} {l : List Int} {fp : List Nat} : QRep h vr vm l fp → FitsL [.sl, .map] [vr, vm] := fun ⟨fr, fm, e, hd, h1, h2⟩ => ⟨h1.fit, h2.fit, trivial⟩
theorem QRep.nil {h : H} : QRep h (.slice none 0 0) (.map none) [] [] := ⟨[], [], rfl, by simp, RowG.nil, KeyMap.nil⟩
theorem zero_int : ((zeroCells Tryd.prog 3).getD []).length = 1 := by kernel_rfl
theorem s46k {h : H} {vr vm : Value} {l : List Int} {fp : List Nat} {x : Int} (hq : QRep h vr vm l fp) (hl : l.length ≤ 1000000) :
    CallsA Tryd.prog 46 (fun e => [(e 0).ptr 0, .int .i64 x]) [[vr, vm]] h (RetC fun r c h' => r = .bool (decide (x ∉ l)) ∧ ∃ vr' vm' fp', c = [vr', vm'] ∧ QRep h' vr' vm' (if x ∈ l then l else l ++ [x]) fp' ∧ KeptH h h' fp ∧ ∀ b ∈ fp', b ∈ fp ∨ h b = none) := by
  obtain ⟨fr, fm, rfl, hd, hr, hm⟩ := hq
  refine c46k (G := [vr, vm, .int .i64 x]) ⟨hr.fit, hm.fit, ⟨_, rfl⟩, trivial⟩ ?_
  refine hm.look x ?_
  refine h_ite (fun hc => ?_) (fun hc => ?_)
  · replace hc : decide (x ∈ l) = true := hc
    rw [decide_eq_true_eq] at hc
    exact ⟨_, rfl, by simp [hc]; rfl, vr, vm, fr ++ fm, rfl, by rw [if_pos hc]; exact ⟨fr, fm, rfl, hd, hr, hm⟩, KeptH.refl _ _, fun b hb => .inl hb⟩
  · replace hc : decide (x ∈ l) = false := hc
    rw [decide_eq_false_iff_not] at hc
    -- what is left, once there is a map
    have go : ∀ {h1 : H} {m : Value} {f1 : List Nat} {G : List Value} {i : Nat} (km : KeyMap h1 m l f1) (hne : m ≠ .map none) (k1 : KeptH h h1 []) (hf1 : ∀ b ∈ f1, b ∈ fm ∨ h b = none) (e0 : gv G 0 = vr) (e2 : gv G 2 = .int .i64 x) (ei : gv G i = m) (hi : i < G.length) (hG : 3 ≤ G.length),
        holds Tryd.prog (RetC fun r c h' => r = .bool (decide (x ∉ l)) ∧ ∃ vr' vm' fp', c = [vr', vm'] ∧ QRep h' vr' vm' (if x ∈ l then l else l ++ [x]) fp' ∧ KeptH h h' (fr ++ fm) ∧ ∀ b ∈ fp', b ∈ fr ++ fm ∨ h b = none)
          (.app 3 1 8 (.val 0) (.cells [(.int .i64 (.var 2))] 1) (.ment (.int .i64) .bool (.bool false) (.val i) (.int .i64 (.var 2)) (.ents (.val i) (.int .i64 (.var (G.length + 2))) (.bool (.tt true)) (.done (.bool (.tt true)) [[(.val G.length), (.val i)]])))) G [] h1 := by
      intro h1 m f1 G i km hne k1 hf1 e0 e2 ei hi hG
      have hr1 : RowG h1 3 vr (l.map (.int .i64)) fr := hr.agree (k1.agree hr.live fun b _ => by simp)
      refine ⟨[.int .i64 x], 1, ⟨by simp only [SV.denL, SV.den, X.den, e2, vi_int], rfl⟩, ?_⟩
      show AppSpec _ _ _ _ _ (gv G 0) _ _ _
      rw [e0]
      have hlen := hr.len
      refine app_rowG hr1 zero_int (by rw [hlen]; simp; omega) fun v' h2 f2 m1 m2 m3 => ?_
      have m3' : ∀ b ∈ f2, b ∈ fr ∨ h1 b = none := fun b hb => by
        rcases m3 with rfl | ⟨b', rfl, hb'⟩
        · exact .inl hb
        · rw [List.mem_singleton] at hb; subst hb; exact .inr hb'
      have hlive1 := km.live
      have dis : ∀ b ∈ f1, b ∉ fr := fun b hb hb' => by
        rcases hf1 b hb with q | q
        · exact hd b hb' q
        · have := hr.live b hb'; rw [q] at this; cases this
      have km2 : KeyMap h2 m l f1 := km.agree (m2.agree hlive1 dis)
      have dis2 : ∀ b ∈ f2, b ∉ f1 := fun b hb hb' => by
        rcases m3' b hb with q | q
        · exact dis b hb' q
        · have := hlive1 b hb'; rw [q] at this; cases this
      have ev : gv (G ++ [v']) i = m := by rw [gv_of_lt hi]; exact ei
      have ev2 : gv (G ++ [v']) 2 = .int .i64 x := by rw [gv_of_lt (by omega)]; exact e2
      show MentSpec _ _ _ _ (gv (G ++ [v']) i) (.int .i64 (vi (gv (G ++ [v']) 2))) _
      rw [ev, ev2]
      refine km2.ment hc hne fun h3 n k3 hes => ?_
      have ev3 : gv (G ++ [v'] ++ [.bool false, .int .i64 (n : Int)]) i = m := by rw [gv_of_lt (by simp; omega)]; exact ev
      have ev4 : gv (G ++ [v'] ++ [.bool false, .int .i64 (n : Int)]) (G.length + 2) = .int .i64 (n : Int) := gv_at (j := 1) (by simp)
      show EntSpec _ (gv (G ++ [v'] ++ [.bool false, .int .i64 (n : Int)]) i) (.int .i64 (vi (gv (G ++ [v'] ++ [.bool false, .int .i64 (n : Int)]) (G.length + 2)))) (.bool true) _
      rw [ev3, ev4]
      refine hes fun h4 km4 k4 => ?_
      have ev5 : gv (G ++ [v'] ++ [.bool false, .int .i64 (n : Int)]) G.length = v' := by rw [gv_of_lt (by simp)]; exact gv_last
      refine ⟨_, rfl, by simp [hc]; rfl, v', m, f2 ++ f1, ?_, ?_, ?_, ?_⟩
      · show [gv (G ++ [v'] ++ [.bool false, .int .i64 (n : Int)]) G.length, gv (G ++ [v'] ++ [.bool false, .int .i64 (n : Int)]) i] = _
        rw [ev5, ev3]
      · rw [if_neg hc]
        refine ⟨f2, f1, rfl, dis2, ?_, km4⟩
        have := m1.agree (k4.agree m1.live dis2)
        rw [List.map_append]; exact this
      · have c1 : KeptH h h2 (fr ++ fm) := (kept_chain (f := fr ++ fm) (f1 := fr ++ fm) (k1.mono (by simp)) (fun b hb => .inl hb) (m2.mono (by simp_all)) (fun b hb => .inl hb) (f2 := fr ++ fm)).1
        intro b hb hs
        have e := c1 b hb hs
        rw [k4 b (fun hb' => by
          rcases hf1 b hb' with q | q
          · exact hb (by simp [q])
          · rw [q] at hs; cases hs) (by rw [e]; exact hs), e]
      · intro b hb
        rcases List.mem_append.1 hb with q | q
        · rcases m3' b q with q | q
          · exact .inl (by simp [q])
          · exact .inr (H.le_none k1.le_nil q)
        · rcases hf1 b q with q | q
          · exact .inl (by simp [q])
          · exact .inr q
    refine h_ite (fun hn => ?_) (fun hn => ?_)
    · intro b hb
      have hmn : vm = .map none := by
        replace hn : vnil vm = true := hn
        obtain ⟨r, rfl⟩ := hm.fit
        cases r with
        | none => rfl
        | some r => cases hn
      have hl0 : l = [] := by
        rcases hm with ⟨_, h2, _⟩ | ⟨r, es, clock, h0, _⟩
        · exact h2
        · rw [hmn] at h0; cases h0
      refine go (h1 := h.put b (.map #[] 0)) (m := .map (some b)) (f1 := [b]) (i := 5) (.inr ⟨b, #[], 0, rfl, rfl, H.put_same, by rw [hl0]; rfl, fun e he => by simp at he, by rw [hl0]; exact List.nodup_nil⟩) (by simp) (KeptH.put hb _) (fun b' hb' => by rw [List.mem_singleton] at hb'; subst hb'; exact .inr hb) rfl rfl rfl (by simp) (by simp)
    · refine go (h1 := h) (m := vm) (f1 := fm) (i := 1) hm (fun e => ?_) (KeptH.refl _ _) (fun b hb => .inl hb) rfl rfl rfl (by simp) (by simp)
      replace hn : vnil vm = false := hn
      rw [e] at hn; cases hn
theorem s47k {h : H} {vr vm : Value} {l : List Int} {fp : List Nat} (hq : QRep h vr vm l fp) :
    CallsA Tryd.prog 47 (fun e => [(e 0).ptr 0]) [[vr, vm]] h (RetC fun r c h' => r = .int .i64 (l.length : Int) ∧ c = [vr, vm] ∧ h' = h) := by
  obtain ⟨fr, fm, rfl, hd, hr, hm⟩ := hq
  refine c47k (G := [vr, vm]) ⟨hr.fit, hm.fit, trivial⟩ ?_
  have := hr.len
  refine ⟨_, rfl, ?_, rfl, rfl⟩
  simp only [SV.den, X.den, gv_zero, vi_int, this, List.length_map]
theorem s48k {h : H} {vr vm : Value} {x : Int} {l : List Int} {fp : List Nat} (hq : QRep h vr vm (x :: l) fp) :
    CallsA Tryd.prog 48 (fun e => [(e 0).ptr 0]) [[vr, vm]] h (RetC fun r c h' => r = .tuple #[.int .i64 x, .bool true] ∧ ∃ vr', c = [vr', vm] ∧ QRep h' vr' vm l fp ∧ KeptH h h' fp) := by
  obtain ⟨fr, fm, rfl, hd, hr, hm⟩ := hq
  refine c48k (G := [vr, vm]) ⟨hr.fit, hm.fit, trivial⟩ ?_
  have hl := hr.len
  simp only [List.length_map, List.length_cons] at hl
  refine h_ite (fun hc => ?_) (fun hc => ?_)
  · simp only [X.den, gv_zero, vi_int, vb_bool, cmp_eql, hl, decide_eq_true_eq] at hc; omega
  · refine ⟨fun _ => ⟨rfl, ?_, trivial⟩, h_load [.int .i64 x] ⟨⟨_, rfl⟩, trivial⟩ (fun _ => ?_) ⟨fun _ => ⟨rfl, ?_, trivial⟩, ?_⟩⟩
    · simp only [X.den, gv_zero, vi_int, vb_bool, cmp_lss, hl, decide_eq_true_eq]; omega
    · have := hr.reads (i := 0) (x := .int .i64 x) rfl
      exact this
    · simp only [X.den, List.cons_append, gv_zero, vi_int, vb_bool, cmp_leq, hl, decide_eq_true_eq]; omega
    · intro z hz
      have hz' : z = sliceV vr 1 (vlen vr) 1 := hz
      subst hz'
      refine hm.del fun h' km k => ?_
      have ht : RowG h' 3 (sliceV vr 1 (vlen vr) 1) (l.map (.int .i64)) fr := (RowG.tail hr).agree (k.agree hr.live hd)
      exact ⟨_, rfl, rfl, _, rfl, ⟨fr, fm, rfl, hd, ht, km⟩, k.mono (by simp_all)⟩
/-! ### Which blocks follow -/
def nextL (e : Fin4) : List Int := if e.kind = 1 ∨ (e.kind = 2 ∧ e.to = e.el) then [e.to] else if e.kind = 2 then [e.to, e.el] else []
theorem own_two {h : H} {b : Nat} {x y : Int} (hb : h b = none) : OwnInts h (h.put b (.cells ([Value.int .i64 x, .int .i64 y]).toArray 3 (0, 0))) (.slice (some ⟨b, 0, none⟩) 2 2) [x, y] := own_new (l := [x, y]) hb
theorem own_one {h : H} {b : Nat} {x : Int} (hb : h b = none) : OwnInts h (h.put b (.cells ([Value.int .i64 x]).toArray 3 (0, 0))) (.slice (some ⟨b, 0, none⟩) 1 1) [x] := own_new (l := [x]) hb
theorem s49 {h : H} (e : Fin4) : CallsA Tryd.prog 49 (fun _ => [.agg (endC e).toArray]) [] h (Ret fun r h' => h.le h' ∧ OwnInts h h' r (nextL e)) := by
  refine c49 (G := endC e) ⟨⟨_, rfl⟩, ⟨_, rfl⟩, ⟨_, rfl⟩, ⟨_, rfl⟩, trivial⟩ ?_
  refine h_ite (fun hc => ?_) (fun hc => h_ite (fun hc2 => ?_) (fun hc2 => ?_))
  · simp only [X.den, endC, gv_zero, gv_succ, vi_int, vb_ite, vb_bool, cmp_eql, decide_eq_true_eq] at hc
    have hk : e.kind = 1 ∨ (e.kind = 2 ∧ e.to = e.el) := by grind
    intro b hb
    exact ⟨rfl, H.le_put hb, by unfold nextL; rw [if_pos hk]; exact own_one hb⟩
  · simp only [X.den, endC, gv_zero, gv_succ, vi_int, vb_ite, vb_bool, cmp_eql, decide_eq_true_eq] at hc hc2
    have hk : ¬ (e.kind = 1 ∨ (e.kind = 2 ∧ e.to = e.el)) := by grind
    intro b hb
    exact ⟨rfl, H.le_put hb, by unfold nextL; rw [if_neg hk, if_pos hc2]; exact own_two hb⟩
  · simp only [X.den, endC, gv_zero, gv_succ, vi_int, vb_ite, vb_bool, cmp_eql, decide_eq_true_eq, decide_eq_false_iff_not] at hc hc2
    have hk : ¬ (e.kind = 1 ∨ (e.kind = 2 ∧ e.to = e.el)) := by grind
    exact ⟨rfl, H.le_refl _, by unfold nextL; rw [if_neg hk, if_neg hc2]; exact .inl ⟨rfl, rfl⟩⟩
end Go.Proofs.YtgcaicdmjbkplaaDoor
