/-
  A reader of numbers: what the program's Fail, Code, Num, Below, Int, End, New compute. Conditions: as each contract says.
-/
import Derived.Test.YthnoplfjcdkacaaR3F
import Derived.Test.YthnoplfjcdkacaaMc
import Derived.Test.YthnoplfjcdkacaaR3Tk
set_option linter.unusedVariables false
set_option linter.unusedSimpArgs false
namespace Go.Proofs.Ythnoplfjcdkacaa
open Go

/-- A reader, in a block of its own: the bytes that are left (they lie in what was there ahead), the first fault. -/
def Rdr (g h : H) (b : Nat) (s : RS) : Prop := g b = none ∧ g.le h ∧ ∃ v, BytesAt g v s.1 ∧ ∃ ety, h b = some (.cells [v, .int .i64 s.2].toArray ety (0, 0))
def ptrB (b : Nat) : Value := .pointer (some ⟨b, 0, none⟩)
section
variable {g h : H} {b : Nat} {s : RS}
theorem Rdr.code (k : Rdr g h b s) : Reads h ((⟨b, 0, none⟩ : Addr).add 1) [.int .i64 s.2] := by
  obtain ⟨-, -, v, -, ety, hb⟩ := k
  intro i u hi
  obtain ⟨rfl, rfl⟩ := get_one hi
  rw [add_add, add_lit]
  simp [H.cell?, hb]
theorem Rdr.bytes (k : Rdr g h b s) : ∃ v, BytesAt h v s.1 ∧ Reads h ((⟨b, 0, none⟩ : Addr).add 0) [v] := by
  obtain ⟨-, hl, v, hv, ety, hb⟩ := k
  refine ⟨v, hv.le hl, fun i u hi => ?_⟩
  obtain ⟨rfl, rfl⟩ := get_one hi
  rw [add_add, add_lit]
  simp [H.cell?, hb]
theorem sets1 {hh : H} {b o : Nat} {l : List Value} {e : TypeId} {v : Value} (hb : hh b = some (.cells l.toArray e (0, 0))) (ho : o < l.length) :
    Writable hh ((⟨b, 0, none⟩ : Addr).add o) 1 ∧ (hh.sets ((⟨b, 0, none⟩ : Addr).add o) [v]) b = some (.cells (l.set o v).toArray e (0, 0)) ∧ ∀ x, x ≠ b → (hh.sets ((⟨b, 0, none⟩ : Addr).add o) [v]) x = hh x := by
  have ea : (⟨b, 0, none⟩ : Addr).add o = ⟨b, o, none⟩ := by rw [add_lit, Nat.zero_add]
  have el : l = l.take o ++ [l[o]] ++ l.drop (o + 1) := by
    simp
  obtain ⟨s1, s2⟩ := sets_block (b := b) (e := e) (f := (0, 0)) [v] hh o (l.take o) [l[o]] (l.drop (o + 1)) (by rw [List.length_take]; omega) rfl (by rw [← el]; exact hb)
  rw [ea]
  refine ⟨fun i hi => ?_, ?_, s2⟩
  · have : i = 0 := by omega
    subst this
    rw [add_lit]
    simp [H.cell?, H.frozen?, hb, ho]
  · rw [s1]
    congr 3
    rw [List.set_eq_take_append_cons_drop, if_pos ho]; simp
/-- The fault set. -/
theorem Rdr.fault (k : Rdr g h b s) (c : Int) : Writable h ((⟨b, 0, none⟩ : Addr).add 1) 1 ∧ Rdr g (h.sets ((⟨b, 0, none⟩ : Addr).add 1) [.int .i64 c]) b (s.1, c) ∧ KeptH h (h.sets ((⟨b, 0, none⟩ : Addr).add 1) [.int .i64 c]) [b] := by
  obtain ⟨hg, hl, v, hv, ety, hb⟩ := k
  obtain ⟨k1, k2, k3⟩ := sets1 (o := 1) (v := .int .i64 c) hb (by simp)
  refine ⟨k1, ⟨hg, fun x o e => ?_, v, hv, _, k2⟩, fun x hx _ => k3 x (fun e => hx (by rw [e]; exact List.mem_singleton.2 rfl))⟩
  rw [k3 x (fun e' => by rw [e', hg] at e; cases e)]; exact hl _ _ e
/-- The bytes set. -/
theorem Rdr.rest (k : Rdr g h b s) {v : Value} {l : List Int} (hv : BytesAt g v l) : Writable h ((⟨b, 0, none⟩ : Addr).add 0) 1 ∧ Rdr g (h.sets ((⟨b, 0, none⟩ : Addr).add 0) [v]) b (l, s.2) ∧ KeptH h (h.sets ((⟨b, 0, none⟩ : Addr).add 0) [v]) [b] := by
  obtain ⟨hg, hl, v', hv', ety, hb⟩ := k
  obtain ⟨k1, k2, k3⟩ := sets1 (o := 0) (v := v) hb (by simp)
  refine ⟨k1, ⟨hg, fun x o e => ?_, v, hv, _, k2⟩, fun x hx _ => k3 x (fun e => hx (by rw [e]; exact List.mem_singleton.2 rfl))⟩
  rw [k3 x (fun e' => by rw [e', hg] at e; cases e)]; exact hl _ _ e
theorem Rdr.kept (k : Rdr g h b s) {h' : H} {fp : List Nat} (hk : KeptH h h' fp) (hf : Fresh h fp) : Rdr g h' b s := by
  obtain ⟨hg, hl, v, hv, ety, hb⟩ := k
  refine ⟨hg, hk.le hl (fun x hx => H.le_none hl (hf x hx)), v, hv, ety, ?_⟩
  rw [hk b (fun hx => by rw [hf b hx] at hb; cases hb) (by rw [hb]; rfl)]; exact hb
theorem Rdr.live (k : Rdr g h b s) : (h b).isSome = true := by obtain ⟨-, -, v, -, ety, hb⟩ := k; rw [hb]; rfl
theorem s66 {c : Int} (k : Rdr g h b s) : CallsA Try.prog 66 (fun _ => [ptrB b, .int .i64 c]) [] h (Ret fun r h' => r = .tuple #[] ∧ Rdr g h' b (failR c s) ∧ KeptH h h' [b]) := by
  refine c66 (G := [ptrB b, .int .i64 c]) ⟨⟨_, rfl⟩, ⟨_, rfl⟩, trivial⟩ ?_
  refine ⟨fun _ => ⟨rfl, trivial⟩, h_load [.int .i64 s.2] ⟨⟨_, rfl⟩, trivial⟩ (fun _ => k.code) (h_ite (fun hc => ⟨fun _ => ⟨rfl, trivial⟩, ?_⟩) (fun hc => ⟨rfl, rfl, ?_, KeptH.refl _ _⟩))⟩
  · replace hc : cmpOp .eql s.2 0 = true := hc
    rw [cmp_eql, decide_eq_true_eq] at hc
    obtain ⟨k1, k2, k3⟩ := k.fault c
    exact h_store ((⟨b, 0, none⟩ : Addr).add 1) [.int .i64 c] rfl rfl k1 ⟨rfl, rfl, by unfold failR; rw [if_pos hc]; exact k2, k3⟩
  · replace hc : cmpOp .eql s.2 0 = false := hc
    rw [cmp_eql, decide_eq_false_iff_not] at hc
    unfold failR; rw [if_neg hc]; exact k
theorem s46 (k : Rdr g h b s) : CallsA Try.prog 46 (fun _ => [ptrB b]) [] h (Ret fun r h' => h' = h ∧ r = .int .i64 s.2) := by
  refine c46 (G := [ptrB b]) ⟨⟨_, rfl⟩, trivial⟩ ?_
  exact ⟨fun _ => ⟨rfl, trivial⟩, h_load [.int .i64 s.2] ⟨⟨_, rfl⟩, trivial⟩ (fun _ => k.code) ⟨rfl, rfl, rfl⟩⟩
end
theorem keep_keep {h h1 h2 : H} {b : Nat} (a : KeptH h h1 [b]) (c : KeptH h1 h2 [b]) : KeptH h h2 [b] := a.trans c
/-- What is read of a number, so far. -/
theorem numA_step {l : List Int} {i n : Nat} {c : Int} (hc : l[i]? = some c) : numA i n (l.drop i) = if (i = 9 ∧ 1 < c) ∨ (0 < i ∧ c = 0) then (8, 0, []) else if c < 128 then (0, n + c.toNat * 128 ^ i, l.drop (i + 1)) else numA (i + 1) (n + (c - 128).toNat * 128 ^ i) (l.drop (i + 1)) := by
  obtain ⟨h, rfl⟩ := List.getElem?_eq_some_iff.1 hc
  rw [List.drop_eq_getElem_cons h, numA]
theorem or_shl {n i c : Nat} (hn : n < 128 ^ i) (hi : i ≤ 9) (hc : c < 128) (h9 : i = 9 → c ≤ 1) : intOp .or .u64 (n : Int) (intOp .shl .u64 (c : Int) (intOp .mul .i64 7 (i : Int))) = ((n + c * 128 ^ i : Nat) : Int) ∧ n + c * 128 ^ i < 18446744073709551616 ∧ (i < 9 → n + c * 128 ^ i < 128 ^ (i + 1)) := by
  have e7 : intOp .mul .i64 7 (i : Int) = ((7 * i : Nat) : Int) := by
    simp only [intOp]; rw [wrap_i64 (by omega) (by omega)]; omega
  have p : (128 : Nat) ^ i = 2 ^ (7 * i) := by rw [show (128 : Nat) = 2 ^ 7 by decide, ← Nat.pow_mul]
  have hle : (128 : Nat) ^ i ≤ 128 ^ 9 := Nat.pow_le_pow_right (by omega) hi
  have hlt1 : i < 9 → n + c * 128 ^ i < 128 ^ (i + 1) := fun h => by
    have : c * 128 ^ i ≤ 127 * 128 ^ i := Nat.mul_le_mul_right _ (by omega)
    rw [Nat.pow_succ]; omega
  have hlt : n + c * 128 ^ i < 18446744073709551616 := by
    by_cases h : i < 9
    · have h1 := hlt1 h
      have h2 : (128 : Nat) ^ (i + 1) ≤ 128 ^ 9 := Nat.pow_le_pow_right (by omega) h
      have h3 : (128 : Nat) ^ 9 = 9223372036854775808 := by decide
      omega
    · have h' : i = 9 := by omega
      subst h'
      have h3 : (128 : Nat) ^ 9 = 9223372036854775808 := by decide
      have := h9 rfl
      rw [h3] at hn ⊢
      omega
  refine ⟨?_, hlt, hlt1⟩
  rw [e7]
  have es : intOp .shl .u64 (c : Int) ((7 * i : Nat) : Int) = ((c * 128 ^ i : Nat) : Int) := by
    simp only [intOp, IntKind.bits, Int.toNat_natCast]
    rw [Nat.min_eq_left (by omega), p]
    have : (c : Int) * 2 ^ (7 * i) = ((c * 2 ^ (7 * i) : Nat) : Int) := by simp
    rw [this]
    exact u64_id (by omega) (by rw [← p]; omega)
  rw [es]
  have ho : n ||| c * 128 ^ i = n + c * 128 ^ i := by
    rw [p] at hn ⊢
    have := Nat.two_pow_add_eq_or_of_lt hn c
    rw [Nat.or_comm, Nat.mul_comm c, ← this]; omega
  have e : (BitVec.ofInt 64 (n : Int) ||| BitVec.ofInt 64 ((c * 128 ^ i : Nat) : Int)).toNat = n + c * 128 ^ i := by
    rw [BitVec.toNat_or]
    have h1 : ∀ n : Nat, n < 18446744073709551616 → (BitVec.ofInt 64 (n : Int)).toNat = n := fun n hn => by simp [BitVec.toNat_ofInt]; omega
    rw [h1 n (by omega), h1 _ (by omega), ho]
  show IntKind.u64.wrap ((BitVec.ofInt 64 (n : Int) ||| BitVec.ofInt 64 ((c * 128 ^ i : Nat) : Int)).toNat : Int) = _
  rw [e]
  exact u64_id (by omega) (by omega)
theorem and_127 {c : Nat} (hc : c < 256) (h : 128 ≤ c) : intOp .and .u8 (c : Int) 127 = ((c - 128 : Nat) : Int) := by
  have key : ∀ k : _root_.Fin 256, 128 ≤ (k : Nat) → intOp .and .u8 (((k : Nat) : Nat) : Int) 127 = ((((k : Nat) - 128 : Nat) : Nat) : Int) := by decide +kernel
  exact key ⟨c, hc⟩ h
theorem lt_of_read {l : List Int} {i : Nat} (h : i < l.length) : l[i]? = some l[i] := List.getElem?_eq_getElem h
set_option maxRecDepth 4000 in
theorem s65 {g h : H} {b : Nat} {s : RS} (k : Rdr g h b s) (hl : s.1.length ≤ 1000000000) :
    CallsA Try.prog 65 (fun _ => [ptrB b]) [] h (Ret fun r h' => r = .int .u64 ((numR s).1 : Int) ∧ Rdr g h' b (numR s).2 ∧ KeptH h h' [b]) := by
  refine c65 (G := [ptrB b]) ⟨⟨_, rfl⟩, trivial⟩ ?_
  obtain ⟨l, e⟩ := s
  simp only at hl
  have k' := k
  obtain ⟨-, hgl, v, hv, ety, hbb⟩ := k
  have hvh := hv.le hgl
  have hvl : vlen v = l.length := hv.len
  have rdv : Reads h ((⟨b, 0, none⟩ : Addr).add 0) [v] := fun i u hi => by
    obtain ⟨rfl, rfl⟩ := get_one hi
    rw [add_add, add_lit]
    simp [H.cell?, hbb]
  refine h_loop (fun xs h' => ∃ n i : Nat, xs = [.int .u64 (n : Int), .int .i64 (i : Int)] ∧
      ((e = 0 ∧ i ≤ l.length ∧ i ≤ 9 ∧ n < 128 ^ i ∧ numA 0 0 l = numA i n (l.drop i) ∧ h' = h) ∨ (i ≤ l.length + 1 ∧ ∃ s1, numR (l, e) = (0, s1) ∧ Rdr g h' b s1 ∧ s1.2 ≠ 0 ∧ KeptH h h' [b])))
    (fun xs h' => l.length + 2 - (vi (gv xs 1)).toNat) ⟨0, 0, rfl, ?_⟩ ?_
  · by_cases he : e = 0
    · exact .inl ⟨he, Nat.zero_le _, by omega, by simp, rfl, rfl⟩
    · exact .inr ⟨by omega, (l, e), by unfold numR; rw [if_pos he], k', he, KeptH.refl _ _⟩
  rintro xs h1 J - ⟨n, i, rfl, hor⟩ hJ
  rcases hor with ⟨rfl, hil, hi9, hn, hA, rfl⟩ | ⟨hil, s1, hs1, k1, hne, hk1⟩
  · refine ⟨fun _ => ⟨rfl, trivial⟩, h_load [.int .i64 0] ⟨⟨_, rfl⟩, trivial⟩ (fun _ => k'.code) (iteT rfl ⟨fun _ => ⟨rfl, trivial⟩, h_load [v] ⟨hv.fit, trivial⟩ (fun _ => rdv) ?_⟩)⟩
    simp only [List.cons_append, List.nil_append]
    have again : ∀ {h' : H} {s1 : RS}, numR (l, 0) = (0, s1) → Rdr g h' b s1 → s1.2 ≠ 0 → KeptH h1 h' [b] → J [.int .u64 (n : Int), .int .i64 (intOp .add .i64 (i : Int) 1)] h' := fun {h' s1} a1 a2 a3 a4 => by
      rw [int_add_one (n := 10) (by omega) (by omega)]
      refine hJ _ _ ⟨n, i + 1, rfl, .inr ⟨by omega, s1, a1, a2, a3, a4⟩⟩ ?_
      show l.length + 2 - ((((i + 1 : Nat) : Nat) : Int)).toNat < l.length + 2 - ((i : Int)).toNat
      omega
    have nr : ∀ {er : Int} {t : List Int}, numA i n (l.drop i) = (er, 0, t) → er ≠ 0 → numR (l, 0) = (0, (l, er)) := fun {er t} a1 a2 => by
      unfold numR
      rw [if_neg (by simp)]
      simp only
      rw [hA, a1, if_neg a2]
    have failE : ∀ {er : Int}, er ≠ 0 → failR er (l, 0) = (l, er) := fun {er} _ => by unfold failR; rw [if_pos rfl]
    refine h_ite (fun hc => ?_) (fun hc => ?_)
    · replace hc : cmpOp .geq (i : Int) ((vlen v : Nat) : Int) = true := hc
      rw [hvl, cmp_geq, decide_eq_true_eq] at hc
      refine h_call0 (s66 (c := 3) k') ?_
      rintro _ h2 ⟨rfl, k2, hk2⟩
      refine ⟨[], trivial, rfl, again (nr (er := 3) (t := []) ?_ (by omega)) (by rw [failE (by omega)] at k2; exact k2) (by simp) hk2⟩
      rw [List.drop_eq_nil_of_le (by omega), numA]
    replace hc : cmpOp .geq (i : Int) ((vlen v : Nat) : Int) = false := hc
    have hlt0 : cmpOp .lss (i : Int) ((vlen v : Nat) : Int) = true := by
      rw [cmp_geq, decide_eq_false_iff_not] at hc; rw [cmp_lss, decide_eq_true_eq]; omega
    have hlt : i < l.length := by rw [hvl, cmp_lss, decide_eq_true_eq] at hlt0; omega
    have hci := lt_of_read hlt
    generalize l[i] = c at hci
    obtain ⟨hrd, hc0, hc255⟩ := hvh.read hci
    have hst := numA_step (n := n) hci
    have k19 : ∀ D : List Value, vb ((X.cmp .eql (.var 2) (.lit 9)).den (ptrB b :: .int .u64 (n : Int) :: .int .i64 (i : Int) :: D)) = decide (i = 9) := fun D => by
      simp only [X.den, gv_succ, gv_zero, vi_int, vb_bool, cmp_eql]
      exact decide_eq_decide.2 (by omega)
    refine ⟨fun _ => ⟨rfl, trivial⟩, h_load [v] ⟨hv.fit, trivial⟩ (fun _ => rdv) ⟨fun _ => ⟨nat_ge0 i, hlt0, trivial⟩, h_load [.int .u8 c] ⟨⟨_, rfl⟩, trivial⟩ (fun _ => hrd) ?_⟩⟩
    simp only [List.cons_append, List.nil_append]
    refine h_ite (fun hc2 => ?_) (fun hc2 => ?_)
    · have h9 : i = 9 ∧ 1 < c := by
        simp only [X.den, gv_succ, gv_zero, vi_int, vb_bool, vb_ite, cmp_eql, cmp_gtr] at hc2
        simp at hc2
        omega
      refine h_call0 (s66 (c := 8) k') ?_
      rintro _ h2 ⟨rfl, k2, hk2⟩
      refine ⟨[], trivial, rfl, again (nr (er := 8) (t := []) ?_ (by omega)) (by rw [failE (by omega)] at k2; exact k2) (by simp) hk2⟩
      rw [hst, if_pos (.inl h9)]
    have h9 : ¬ (i = 9 ∧ 1 < c) := fun g => by
      simp only [X.den, gv_succ, gv_zero, vi_int, vb_bool, vb_ite, cmp_eql, cmp_gtr] at hc2
      simp at hc2
      omega
    refine ⟨fun _ => ⟨rfl, trivial⟩, h_load [v] ⟨hv.fit, trivial⟩ (fun _ => rdv) ⟨fun _ => ⟨nat_ge0 i, hlt0, trivial⟩, h_load [.int .u8 c] ⟨⟨_, rfl⟩, trivial⟩ (fun _ => hrd) ?_⟩⟩
    simp only [List.cons_append, List.nil_append]
    refine h_ite (fun hc3 => ?_) (fun hc3 => ?_)
    · have h0 : 0 < i ∧ c = 0 := by
        simp only [X.den, gv_succ, gv_zero, vi_int, vb_bool, vb_ite, cmp_eql, cmp_gtr] at hc3
        simp at hc3
        omega
      refine h_call0 (s66 (c := 8) k') ?_
      rintro _ h2 ⟨rfl, k2, hk2⟩
      refine ⟨[], trivial, rfl, again (nr (er := 8) (t := []) ?_ (by omega)) (by rw [failE (by omega)] at k2; exact k2) (by simp) hk2⟩
      rw [hst, if_pos (.inr h0)]
    have h0 : ¬ (0 < i ∧ c = 0) := fun g => by
      simp only [X.den, gv_succ, gv_zero, vi_int, vb_bool, vb_ite, cmp_eql, cmp_gtr] at hc3
      simp at hc3
      omega
    rw [if_neg (by rintro (q | q); exact h9 q; exact h0 q)] at hst
    refine ⟨fun _ => ⟨rfl, trivial⟩, h_load [v] ⟨hv.fit, trivial⟩ (fun _ => rdv) ⟨fun _ => ⟨nat_ge0 i, hlt0, trivial⟩, h_load [.int .u8 c] ⟨⟨_, rfl⟩, trivial⟩ (fun _ => hrd) ?_⟩⟩
    simp only [List.cons_append, List.nil_append]
    obtain ⟨cn, rfl⟩ : ∃ cn : Nat, c = (cn : Int) := ⟨c.toNat, by omega⟩
    have e7 : intOp .mul .i64 7 (i : Int) = ((7 * i : Nat) : Int) := by
      simp only [intOp]; rw [wrap_i64 (by omega) (by omega)]; omega
    have n7 : cmpOp .geq (intOp .mul .i64 7 (i : Int)) 0 = true := by rw [e7]; exact nat_ge0 _
    refine h_ite (fun hc4 => ?_) (fun hc4 => ?_)
    · replace hc4 : cmpOp .lss (cn : Int) 128 = true := hc4
      rw [cmp_lss, decide_eq_true_eq] at hc4
      rw [if_pos hc4] at hst
      obtain ⟨o1, o2, -⟩ := or_shl (c := cn) hn hi9 (by omega) (fun e => by omega)
      have ei : intOp .add .i64 (i : Int) 1 = ((i + 1 : Nat) : Int) := int_add_one (n := 10) (by omega) (by omega)
      refine ⟨fun _ => ⟨rfl, trivial⟩, h_load [v] ⟨hv.fit, trivial⟩ (fun _ => rdv) ⟨fun _ => ⟨nat_ge0 i, hlt0, trivial⟩, h_load [.int .u8 (cn : Int)] ⟨⟨_, rfl⟩, trivial⟩ (fun _ => hrd) ⟨fun _ => ⟨n7, trivial⟩, fun _ => ⟨rfl, trivial⟩, h_load [v] ⟨hv.fit, trivial⟩ (fun _ => rdv) ?_⟩⟩⟩
      simp only [List.cons_append, List.nil_append]
      refine ⟨fun _ => ⟨?_, ?_, trivial⟩, ?_⟩
      · show cmpOp .geq (intOp .add .i64 (i : Int) 1) 0 = true
        rw [ei]; exact nat_ge0 _
      · show cmpOp .leq (intOp .add .i64 (i : Int) 1) ((vlen v : Nat) : Int) = true
        rw [ei, hvl, cmp_leq, decide_eq_true_eq]; omega
      rintro w rfl
      have hsl : BytesAt g (sliceV v (i + 1) l.length 1) (l.drop (i + 1)) := by
        have := SlAt.slice hv (lo := i + 1) (hi := l.length) (by omega) (Nat.le_refl _)
        simp only at this
        rwa [List.take_of_length_le (by rw [List.length_drop]; omega)] at this
      have ew : LF.den [ptrB b, Value.int .u64 (n : Int), .int .i64 (i : Int), .int .i64 0, v, v, .int .u8 (cn : Int), v, .int .u8 (cn : Int), v, .int .u8 (cn : Int), v, .int .u8 (cn : Int), v] (.slice (.val 13) (some (.op .add .i64 (.var 2) (.lit 1))) none 1) = sliceV v (i + 1) l.length 1 := by
        show sliceV v (intOp .add .i64 (i : Int) 1).toNat (vlen v) 1 = _
        rw [ei, hvl, Int.toNat_natCast]
      rw [ew]
      obtain ⟨w1, w2, w3⟩ := k'.rest hsl
      have hR : numR (l, 0) = (n + cn * 128 ^ i, (l.drop (i + 1), 0)) := by
        unfold numR
        rw [if_neg (by simp)]
        simp only
        rw [hA, hst]; simp
      refine ⟨fun _ => ⟨rfl, trivial⟩, h_store ((⟨b, 0, none⟩ : Addr).add 0) [sliceV v (i + 1) l.length 1] rfl rfl w1 ⟨rfl, ?_, by rw [hR]; exact w2, w3⟩⟩
      show Value.int .u64 (intOp .or .u64 (n : Int) (intOp .shl .u64 (IntKind.u64.wrap (cn : Int)) (intOp .mul .i64 7 (i : Int)))) = _
      rw [hR, u64_id (n := (cn : Int)) (by omega) (by omega), o1]
    · replace hc4 : cmpOp .lss (cn : Int) 128 = false := hc4
      rw [cmp_lss, decide_eq_false_iff_not] at hc4
      rw [if_neg hc4] at hst
      have hi8 : i < 9 := by omega
      obtain ⟨o1, o2, o3⟩ := or_shl (c := cn - 128) hn hi9 (by omega) (fun e => by omega)
      refine ⟨fun _ => ⟨rfl, trivial⟩, h_load [v] ⟨hv.fit, trivial⟩ (fun _ => rdv) ⟨fun _ => ⟨nat_ge0 i, hlt0, trivial⟩, h_load [.int .u8 (cn : Int)] ⟨⟨_, rfl⟩, trivial⟩ (fun _ => hrd) ⟨fun _ => ⟨n7, trivial⟩, ?_⟩⟩⟩
      simp only [List.cons_append, List.nil_append]
      show J [.int .u64 (intOp .or .u64 (n : Int) (intOp .shl .u64 (IntKind.u64.wrap (intOp .and .u8 (cn : Int) 127)) (intOp .mul .i64 7 (i : Int)))), .int .i64 (intOp .add .i64 (i : Int) 1)] h1
      rw [and_127 (by omega) (by omega), u64_id (n := ((cn - 128 : Nat) : Int)) (by omega) (by omega), o1, int_add_one (n := 10) (by omega) (by omega)]
      refine hJ _ _ ⟨_, i + 1, rfl, .inl ⟨rfl, by omega, by omega, o3 hi8, ?_, rfl⟩⟩ ?_
      · rw [hA, hst, show ((cn : Int) - 128).toNat = cn - 128 by omega]
      · show l.length + 2 - ((((i + 1 : Nat) : Nat) : Int)).toNat < l.length + 2 - ((i : Int)).toNat
        omega
  · refine ⟨fun _ => ⟨rfl, trivial⟩, h_load [.int .i64 s1.2] ⟨⟨_, rfl⟩, trivial⟩ (fun _ => k1.code) (iteF ?_ ⟨rfl, by rw [hs1]; rfl, by rw [hs1]; exact k1, hk1⟩)⟩
    show cmpOp .eql s1.2 0 = false
    rw [cmp_eql, decide_eq_false_iff_not]; exact hne
theorem numA_lt : ∀ (l : List Int) (i n : Nat), InB l → i ≤ 9 → n < 128 ^ i → (numA i n l).1 = 0 → (numA i n l).2.1 < 18446744073709551616
  | [], i, n, _, _, _, h => by simp [numA] at h
  | c :: t, i, n, hb, hi, hn, h => by
    have hc := hb c (List.mem_cons_self ..)
    rw [numA] at h ⊢
    by_cases h1 : (i = 9 ∧ 1 < c) ∨ (0 < i ∧ c = 0)
    · rw [if_pos h1] at h; simp at h
    · rw [if_neg h1] at h ⊢
      by_cases h2 : c < 128
      · rw [if_pos h2]
        exact (or_shl (c := c.toNat) hn hi (by omega) (fun e => by omega)).2.1
      · rw [if_neg h2] at h ⊢
        exact numA_lt t (i + 1) _ (fun x hx => hb x (List.mem_cons_of_mem _ hx)) (by omega) ((or_shl (c := (c - 128).toNat) hn hi (by omega) (fun e => by omega)).2.2 (by omega)) h
theorem numR_lt {s : RS} (hb : InB s.1) : (numR s).1 < 18446744073709551616 := by
  unfold numR
  by_cases h : s.2 ≠ 0
  · rw [if_pos h]; simp
  · rw [if_neg h]
    by_cases h2 : (numA 0 0 s.1).1 = 0
    · rw [if_pos h2]; exact numA_lt s.1 0 0 hb (by omega) (by simp) h2
    · rw [if_neg h2]; simp
theorem Rdr.inB {g h : H} {b : Nat} {s : RS} (k : Rdr g h b s) : InB s.1 := by obtain ⟨-, -, v, hv, -⟩ := k; exact hv.inB
theorem numA_len : ∀ (l : List Int) (i n : Nat), (numA i n l).2.2.length ≤ l.length
  | [], i, n => by simp [numA]
  | c :: t, i, n => by
    rw [numA]
    split
    · simp
    · split
      · simp
      · have := numA_len t (i + 1) (n + (c - 128).toNat * 128 ^ i)
        simp only [List.length_cons]; omega
theorem numR_len (s : RS) : (numR s).2.1.length ≤ s.1.length := by
  unfold numR
  split
  · simp
  · split
    · exact numA_len _ _ _
    · simp
theorem belowR_len (n : Nat) (s : RS) : (belowR n s).2.1.length ≤ s.1.length := by
  have := numR_len s
  unfold belowR
  split
  · exact this
  · split <;> exact this
theorem belowR_range (n : Nat) (s : RS) : 0 ≤ (belowR n s).1 ∧ ((belowR n s).1 < n ∨ (belowR n s).1 = 0) := by
  unfold belowR
  split
  · simp
  · split
    · simp
    · simp only; omega
theorem s45 {g h : H} {b : Nat} {s : RS} (k : Rdr g h b s) (hl : s.1.length ≤ 1000000000) (n : Nat) (h1 : 1 ≤ n) (h2 : n ≤ 1000000) :
    CallsA Try.prog 45 (fun _ => [ptrB b, .int .i64 (n : Int)]) [] h (Ret fun r h' => r = .int .i64 (belowR n s).1 ∧ Rdr g h' b (belowR n s).2 ∧ KeptH h h' [b]) := by
  refine c45 (G := [ptrB b, .int .i64 (n : Int)]) ⟨⟨_, rfl⟩, ⟨_, rfl⟩, trivial⟩ ?_
  have hlt := numR_lt k.inB
  refine h_call0 (s65 k hl) ?_
  rintro _ g1 ⟨rfl, k1, hk1⟩
  refine ⟨[.int .u64 ((numR s).1 : Int)], ⟨⟨_, rfl⟩, trivial⟩, rfl, ⟨fun _ => ⟨rfl, trivial⟩, h_load [.int .i64 (numR s).2.2] ⟨⟨_, rfl⟩, trivial⟩ (fun _ => k1.code) ?_⟩⟩
  simp only [List.cons_append, List.nil_append]
  have hw : IntKind.u64.wrap (n : Int) = (n : Int) := u64_id (by omega) (by omega)
  refine h_ite (fun hc => ?_) (fun hc => ?_)
  · simp only [X.den, gv_succ, gv_zero, vi_int, vb_bool, vb_ite, cmp_eql, cmp_lss, cmp_geq, hw] at hc
    simp at hc
    have c1 : (numR s).2.2 = 0 := hc.1
    have c2 : n ≤ (numR s).1 := by omega
    refine h_call0 (s66 (c := 2) k1) ?_
    rintro _ g2 ⟨rfl, k2, hk2⟩
    have e2 : failR 2 (numR s).2 = ((numR s).2.1, 2) := by unfold failR; rw [if_pos c1]
    have eb : belowR n s = (0, ((numR s).2.1, 2)) := by unfold belowR; rw [if_neg (by simpa using c1), if_pos c2]
    rw [e2] at k2
    refine ⟨[], trivial, rfl, ⟨fun _ => ⟨rfl, trivial⟩, h_load [.int .i64 2] ⟨⟨_, rfl⟩, trivial⟩ (fun _ => k2.code) (iteT rfl ⟨rfl, by rw [eb]; rfl, by rw [eb]; exact k2, hk1.trans hk2⟩)⟩⟩
  · simp only [X.den, gv_succ, gv_zero, vi_int, vb_bool, vb_ite, cmp_eql, cmp_lss, cmp_geq, hw] at hc
    simp at hc
    refine ⟨fun _ => ⟨rfl, trivial⟩, h_load [.int .i64 (numR s).2.2] ⟨⟨_, rfl⟩, trivial⟩ (fun _ => k1.code) (h_ite (fun hc2 => ?_) (fun hc2 => ?_))⟩
    · replace hc2 : cmpOp .neq (numR s).2.2 0 = true := hc2
      rw [cmp_neq, decide_eq_true_eq] at hc2
      have eb : belowR n s = (0, (numR s).2) := by unfold belowR; rw [if_pos hc2]
      exact ⟨rfl, by rw [eb]; rfl, by rw [eb]; exact k1, hk1⟩
    · replace hc2 : cmpOp .neq (numR s).2.2 0 = false := hc2
      rw [cmp_neq, decide_eq_false_iff_not, Decidable.not_not] at hc2
      have c2 := hc hc2
      have eb : belowR n s = (((numR s).1 : Int), (numR s).2) := by unfold belowR; rw [if_neg (by simpa using hc2), if_neg (by omega)]
      refine ⟨rfl, ?_, by rw [eb]; exact k1, hk1⟩
      show Value.int .i64 (IntKind.i64.wrap ((numR s).1 : Int)) = _
      rw [eb, wrap_i64 (by omega) (by omega)]
theorem xor_neg {x : Nat} (hx : x < 9223372036854775808) : intOp .xor .i64 (x : Int) (-1) = -(x : Int) - 1 := by
  have e : (BitVec.ofInt 64 (x : Int) ^^^ BitVec.ofInt 64 (-1)).toNat = 18446744073709551615 - x := by
    have h1 : BitVec.ofInt 64 (-1) = BitVec.allOnes 64 := by decide
    rw [h1, BitVec.xor_allOnes, BitVec.toNat_not]
    have : (BitVec.ofInt 64 (x : Int)).toNat = x := by simp [BitVec.toNat_ofInt]; omega
    rw [this]
  show IntKind.i64.wrap ((BitVec.ofInt 64 (x : Int) ^^^ BitVec.ofInt 64 (-1)).toNat : Int) = _
  rw [e]
  simp [IntKind.wrap, IntKind.bits, IntKind.signed]; omega
theorem xor_zero' {x : Nat} (hx : x < 9223372036854775808) : intOp .xor .i64 (x : Int) 0 = (x : Int) := by
  have e : (BitVec.ofInt 64 (x : Int) ^^^ BitVec.ofInt 64 0).toNat = x := by
    have h1 : BitVec.ofInt 64 0 = 0#64 := by decide
    rw [h1, BitVec.xor_zero]
    simp [BitVec.toNat_ofInt]; omega
  show IntKind.i64.wrap ((BitVec.ofInt 64 (x : Int) ^^^ BitVec.ofInt 64 0).toNat : Int) = _
  rw [e]
  exact wrap_i64 (by omega) (by omega)
theorem and_one (n : Nat) : intOp .and .u64 (n : Int) 1 = ((n % 2 : Nat) : Int) := by
  have e : (BitVec.ofInt 64 (n : Int) &&& BitVec.ofInt 64 1).toNat = n % 2 := by
    rw [BitVec.toNat_and]
    have h1 : (BitVec.ofInt 64 (n : Int)).toNat = n % 2 ^ 64 := by simp [BitVec.toNat_ofInt]
    have h2 : (BitVec.ofInt 64 1).toNat = 1 := by decide
    rw [h1, h2, Nat.and_one_is_mod]; omega
  show IntKind.u64.wrap ((BitVec.ofInt 64 (n : Int) &&& BitVec.ofInt 64 1).toNat : Int) = _
  rw [e]
  exact u64_id (by omega) (by omega)
theorem shr_1 (n : Nat) : intOp .shr .u64 (n : Int) 1 = ((n / 2 : Nat) : Int) := by
  simp only [intOp, IntKind.bits]
  rw [show min ((1 : Int).toNat) 64 = 1 by decide]
  rw [show ((2 : Int) ^ 1) = ((2 : Nat) : Int) by rfl, Int.fdiv_eq_ediv_of_nonneg _ (by omega)]; rfl
theorem s82 {g h : H} {b : Nat} {s : RS} (k : Rdr g h b s) (hl : s.1.length ≤ 1000000000) :
    CallsA Try.prog 82 (fun _ => [ptrB b]) [] h (Ret fun r h' => r = .int .i64 (intR s).1 ∧ Rdr g h' b (intR s).2 ∧ KeptH h h' [b]) := by
  refine c82 (G := [ptrB b]) ⟨⟨_, rfl⟩, trivial⟩ ?_
  have hlt := numR_lt k.inB
  refine h_call0 (s65 k hl) ?_
  rintro _ g1 ⟨rfl, k1, hk1⟩
  refine ⟨[.int .u64 ((numR s).1 : Int)], ⟨⟨_, rfl⟩, trivial⟩, rfl, rfl, ?_, k1, hk1⟩
  show Value.int .i64 (intOp .xor .i64 (IntKind.i64.wrap (intOp .shr .u64 ((numR s).1 : Int) 1)) (intOp .sub .i64 0 (IntKind.i64.wrap (intOp .and .u64 ((numR s).1 : Int) 1)))) = Value.int .i64 (zag (numR s).1)
  generalize (numR s).1 = n at hlt
  rw [shr_1, and_one, wrap_i64 (by omega) (by omega), wrap_i64 (by omega) (by omega)]
  unfold zag
  by_cases h : n % 2 = 1
  · rw [if_pos h, h]
    have : intOp .sub .i64 0 (((1 : Nat) : Nat) : Int) = -1 := by simp only [intOp]; rw [wrap_i64 (by omega) (by omega)]; omega
    rw [this, xor_neg (by omega)]
  · rw [if_neg h, show n % 2 = 0 by omega]
    have : intOp .sub .i64 0 (((0 : Nat) : Nat) : Int) = 0 := by simp only [intOp]; rw [wrap_i64 (by omega) (by omega)]; omega
    rw [this, xor_zero' (by omega)]
theorem s47 {g h : H} {b : Nat} {s : RS} (k : Rdr g h b s) : CallsA Try.prog 47 (fun _ => [ptrB b]) [] h (Ret fun r h' => r = .int .i64 (endS s) ∧ KeptH h h' [b]) := by
  refine c47 (G := [ptrB b]) ⟨⟨_, rfl⟩, trivial⟩ ?_
  obtain ⟨v, hv, hr⟩ := k.bytes
  have hvl := hv.len
  refine ⟨fun _ => ⟨rfl, trivial⟩, h_load [v] ⟨hv.fit, trivial⟩ (fun _ => hr) (h_ite (fun hc => ?_) (fun hc => ?_))⟩
  · replace hc : cmpOp .gtr ((vlen v : Nat) : Int) 0 = true := hc
    rw [hvl, cmp_gtr, decide_eq_true_eq] at hc
    have hne : s.1 ≠ [] := fun e => by rw [e] at hc; simp at hc
    refine h_call0 (s66 (c := 5) k) ?_
    rintro _ g1 ⟨rfl, k1, hk1⟩
    refine ⟨[], trivial, rfl, ⟨fun _ => ⟨rfl, trivial⟩, h_load [.int .i64 (failR 5 s).2] ⟨⟨_, rfl⟩, trivial⟩ (fun _ => k1.code) ⟨rfl, ?_, hk1⟩⟩⟩
    unfold endS; rw [if_pos hne]; rfl
  · replace hc : cmpOp .gtr ((vlen v : Nat) : Int) 0 = false := hc
    rw [hvl, cmp_gtr, decide_eq_false_iff_not] at hc
    have he : s.1 = [] := List.eq_nil_of_length_eq_zero (by omega)
    refine ⟨fun _ => ⟨rfl, trivial⟩, h_load [.int .i64 s.2] ⟨⟨_, rfl⟩, trivial⟩ (fun _ => k.code) ⟨rfl, ?_, KeptH.refl _ _⟩⟩
    unfold endS; rw [if_neg (by simpa using he)]; rfl
theorem s44 {h : H} {v : Value} {l : List Int} (hv : BytesAt h v l) (hl : l.length ≤ 1000000000) :
    CallsA Try.prog 44 (fun _ => [v]) [] h (Ret fun r h' => ∃ b g, r = ptrB b ∧ h.le g ∧ h b = none ∧ Rdr g h' b (l, 0)) := by
  refine c44 (G := [v]) ⟨hv.fit, trivial⟩ ?_
  refine copy_own hv rfl (by simp) rfl (by omega) fun v0 v1 g hl1 o => ?_
  intro b hb
  exact ⟨rfl, b, g, rfl, hl1, H.le_none hl1 hb, hb, H.le_put hb, v1, o.at, _, H.put_same⟩
end Go.Proofs.Ythnoplfjcdkacaa
