/-
  The least cost by trying all sets: what the document's answer is. Conditions: as each contract says.
-/
import Derived.Test.YtbgfabppmobpgaaDoorR6H
set_option linter.unusedVariables false
set_option linter.unusedSimpArgs false
namespace Go.Proofs.YtbgfabppmobpgaaDoor
open Go

def BoolC (_ : H) (cs : List Value) (b : Bool) : Prop := cs = [.bool b]
theorem boolC_mono : Mono BoolC := fun _ _ _ _ _ h => h
abbrev BoolsAt := SlAt 1 BoolC
theorem BoolsAt.read {h : H} {v : Value} {l : List Bool} (k : BoolsAt h v l) {i : Nat} {x : Bool} (hi : l[i]? = some x) : Reads h ((vaddr v).add (i * 1)) [.bool x] := by
  obtain ⟨cs, rfl, h2⟩ := k.get i x hi; exact h2
theorem rowF_bools {h : H} {e : TypeId} {u : Value} {l : List Bool} {fp : List Nat} (k : RowF h e 1 u (l.map .bool) fp) : BoolsAt h u l := by
  refine ⟨k.row0.fit, by have := k.row0.len; simp at this; exact this.symm, fun i x hi => ⟨_, rfl, k.row0.reads fun j u hj => ?_⟩⟩
  cases j with
  | zero => simp at hj; subst hj; simp [hi]
  | succ j => simp at hj
abbrev gb (l : List Bool) (u : Nat) : Bool := l.getD u false
theorem gb_some {l : List Bool} {v : Nat} (hv : v < l.length) : l[v]? = some (gb l v) := by
  unfold gb; rw [List.getD_eq_getElem?_getD, List.getElem?_eq_getElem hv]; rfl
theorem gb_set {l : List Bool} {v u : Nat} {x : Bool} (hv : v < l.length) : gb (l.set v x) u = if u = v then x else gb l u := by
  unfold gb
  simp only [List.getD_eq_getElem?_getD, List.getElem?_set]
  by_cases e : v = u
  · subst e; simp [hv]
  · rw [if_neg e, if_neg (fun h => e h.symm)]
theorem hasE_adj {E : EdgeL} {u v : Nat} : hasE E (u : Int) (v : Int) = true ↔ Adj E u v := by
  unfold hasE isE Adj
  rw [List.any_eq_true]
  constructor
  · rintro ⟨⟨a, b⟩, h1, h2⟩
    simp only [Bool.or_eq_true, decide_eq_true_eq] at h2
    rcases h2 with ⟨rfl, rfl⟩ | ⟨rfl, rfl⟩
    · exact .inl h1
    · exact .inr h1
  · rintro (h | h)
    · exact ⟨_, h, by simp⟩
    · exact ⟨_, h, by simp⟩
/-- What stands is right so far. -/
def PreOk (E : EdgeL) (k : Int) (is : Nat → Bool) (v : Nat) (now : Nat → Int) : Prop :=
  (∀ u, u < v → is u = true → 0 ≤ now u ∧ now u < k) ∧ ∀ u w, u < w → w < v → is u = true → is w = true → Adj E u w → now u ≠ now w
/-- A way on. -/
def Way (E : EdgeL) (k : Int) (N : Nat) (is : Nat → Bool) (v : Nat) (now f : Nat → Int) : Prop :=
  (∀ u, u < v → is u = true → f u = now u) ∧ (∀ u, u < N → is u = true → 0 ≤ f u ∧ f u < k) ∧ ∀ u w, u < w → w < N → is u = true → is w = true → Adj E u w → f u ≠ f w
section
variable {h : H} {ve vm : Value} {g : Gr} {k : Int} {inv gotv : Value} {B : List Bool} {fn : List Nat} {N : Nat}
theorem can_calls {h0 : H} (K : GrAt h0 ve vm g) (hN : N = g.n.toNat) (hn0 : 0 ≤ g.n) (hN14 : N ≤ 14) (hin : BoolsAt h0 inv B) (hB : B.length = N) (hk0 : 1 ≤ k) (hk8 : k ≤ 8) (hfn : Fresh h0 fn) : ∀ (m : Nat) {v : Nat} {h : H} {got : List Int}, v + m = N → h0.le h → RowF h 3 1 gotv (got.map (.int .i64)) fn → got.length = N → PreOk g.e k (gb B) v (gt got) →
    CallsA Tryd.prog 28 (fun _ => [grV g ve vm, .int .i64 k, inv, gotv, natV v]) [] h (Ret fun r h' => h0.le h' ∧ ∃ got', RowF h' 3 1 gotv (got'.map (.int .i64)) fn ∧ got'.length = N ∧ (∀ u, u < v → gt got' u = gt got u) ∧ ∃ b, r = .bool b ∧ (b = true ↔ ∃ f, Way g.e k N (gb B) v (gt got) f)) := by
  intro m
  induction m with
  | zero =>
    intro v h got hm hl kg hgl pre
    obtain rfl : v = N := by omega
    refine c28 (G := [.int .i64 g.n, ve, vm, .int .i64 k, inv, gotv, natV v]) ⟨⟨_, rfl⟩, K.e.fit, K.m.fit, ⟨_, rfl⟩, hin.fit, kg.row0.fit, ⟨_, rfl⟩, trivial⟩ ?_
    refine h_ite (fun hc => ⟨rfl, hl, got, kg, hgl, fun _ _ => rfl, true, rfl, ⟨fun _ => ⟨gt got, fun _ _ _ => rfl, pre.1, pre.2⟩, fun _ => rfl⟩⟩) (fun hc => ?_)
    exfalso
    replace hc : cmpOp .eql (v : Int) g.n = false := hc
    rw [cmp_eql, decide_eq_false_iff_not] at hc
    omega
  | succ m ih =>
    intro v h got hm hl kg hgl pre
    have hvN : v < N := by omega
    refine c28 (G := [.int .i64 g.n, ve, vm, .int .i64 k, inv, gotv, natV v]) ⟨⟨_, rfl⟩, K.e.fit, K.m.fit, ⟨_, rfl⟩, hin.fit, kg.row0.fit, ⟨_, rfl⟩, trivial⟩ ?_
    have hil := hin.len
    have hgl' := (rowF_ints kg).len
    have hvadd : intOp .add .i64 (v : Int) 1 = ((v + 1 : Nat) : Int) := int_add_one (n := 1000) (by omega) (by omega)
    refine h_ite (fun hc => ?_) (fun _ => ?_)
    · exfalso
      replace hc : cmpOp .eql (v : Int) g.n = true := hc
      rw [cmp_eql, decide_eq_true_eq] at hc
      omega
    refine ⟨fun _ => needIx (i := v) (v := inv) rfl rfl (hil.trans hB) hvN, h_load [.bool (gb B v)] ⟨⟨_, rfl⟩, trivial⟩ (fun _ => (hin.read (gb_some (v := v) (by omega))).le hl) (h_ite (fun hc => ?_) (fun hc => ?_))⟩
    · replace hc : (!gb B v) = true := hc
      rw [Bool.not_eq_true'] at hc
      have hrec := ih (v := v + 1) (by omega) hl kg hgl ⟨fun u hu hi => pre.1 u (by
        by_cases e : u = v
        · rw [e, hc] at hi; cases hi
        · omega) hi, fun u w huw hw hi hj => pre.2 u w huw (by
        by_cases e : w = v
        · rw [e, hc] at hj; cases hj
        · omega) hi hj⟩
      refine h_call0 (Q := fun r h' => h0.le h' ∧ ∃ got', RowF h' 3 1 gotv (got'.map (.int .i64)) fn ∧ got'.length = N ∧ (∀ u, u < v + 1 → gt got' u = gt got u) ∧ ∃ b, r = .bool b ∧ (b = true ↔ ∃ f, Way g.e k N (gb B) (v + 1) (gt got) f)) ?_ ?_
      · show CallsA _ _ (fun _ => [grV g ve vm, .int .i64 k, inv, gotv, .int .i64 (intOp .add .i64 (v : Int) 1)]) [] _ _
        rw [hvadd]; exact hrec
      · rintro _ h1 ⟨l1, got1, kg1, hgl1, ag1, b, rfl, hb⟩
        refine ⟨[.bool b], ⟨⟨_, rfl⟩, trivial⟩, rfl, rfl, l1, got1, kg1, hgl1, fun u hu => ag1 u (by omega), b, rfl, hb.trans ?_⟩
        constructor
        · rintro ⟨f, f1, f2⟩
          exact ⟨f, fun u hu hi => f1 u (by omega) hi, f2⟩
        · rintro ⟨f, f1, f2⟩
          refine ⟨f, fun u hu hi => f1 u ?_ hi, f2⟩
          by_cases e : u = v
          · rw [e, hc] at hi; cases hi
          · omega
    · replace hc : (!gb B v) = false := hc
      rw [Bool.not_eq_false'] at hc
      refine h_loop (fun xs h' => ∃ (c : Nat) (got' : List Int), xs = [natV c] ∧ (c : Int) ≤ k ∧ h0.le h' ∧ RowF h' 3 1 gotv (got'.map (.int .i64)) fn ∧ got'.length = N ∧ (∀ u, u < v → gt got' u = gt got u) ∧ ∀ f, Way g.e k N (gb B) v (gt got) f → (c : Int) ≤ f v) (fun xs h' => 8 - (vi (gv xs 0)).toNat)
        ⟨0, got, rfl, by omega, hl, kg, hgl, fun _ _ => rfl, fun f hf => (hf.2.1 v hvN hc).1⟩ ?_
      clear kg
      rintro xs h1 J - ⟨c, got1, rfl, hck, hl1, kg, hgl1, ag1, no⟩ hJ
      have hgl1' := (rowF_ints kg).len
      refine h_ite (fun hd => ?_) (fun hd => ?_)
      · replace hd : cmpOp .lss (c : Int) k = true := hd
        rw [cmp_lss, decide_eq_true_eq] at hd
        have hcadd : intOp .add .i64 (c : Int) 1 = ((c + 1 : Nat) : Int) := int_add_one (n := 1000) (by omega) (by omega)
        refine h_loop (fun xs h' => ∃ u : Nat, xs = [.bool ((List.range u).all fun x => !(gb B x && decide (gt got1 x = (c : Int)) && decide (Adj g.e x v))), natV u] ∧ u ≤ v ∧ h' = h1) (fun xs h' => v - (vi (gv xs 1)).toNat) ⟨0, rfl, Nat.zero_le _, rfl⟩ ?_
        rintro xs h2 J2 - ⟨u, rfl, hu, e2⟩ hJ2
        have e2' := e2.symm
        subst e2'
        refine h_ite (fun he => ?_) (fun he => ?_)
        · replace he : cmpOp .lss (u : Int) (v : Int) = true := he
          rw [cmp_lss, decide_eq_true_eq] at he
          have huv : u < v := by omega
          have huadd : intOp .add .i64 (u : Int) 1 = ((u + 1 : Nat) : Int) := int_add_one (n := 1000) (by omega) (by omega)
          have hstep : ((List.range (u + 1)).all fun x => !(gb B x && decide (gt got1 x = (c : Int)) && decide (Adj g.e x v))) = (((List.range u).all fun x => !(gb B x && decide (gt got1 x = (c : Int)) && decide (Adj g.e x v))) && !(gb B u && decide (gt got1 u = (c : Int)) && decide (Adj g.e u v))) := by
            rw [List.range_succ, List.all_append]; simp
          generalize ((List.range u).all fun x => !(gb B x && decide (gt got1 x = (c : Int)) && decide (Adj g.e x v))) = ok at hJ2 hstep
          have hrd := (hin.read (gb_some (l := B) (v := u) (by omega))).le hl1
          have hrg := (rowF_ints kg).read (gt_some (l := got1) (v := u) (by omega))
          refine ⟨fun _ => needIx (i := u) (v := inv) rfl rfl (hil.trans hB) (by omega), h_load [.bool (gb B u)] ⟨⟨_, rfl⟩, trivial⟩ (fun _ => hrd) ⟨fun _ => needIx (i := u) (v := gotv) rfl rfl (hgl1'.trans hgl1) (by omega), h_load [.int .i64 (gt got1 u)] ⟨⟨_, rfl⟩, trivial⟩ (fun _ => hrg) (h_ite (fun hf => ?_) (fun hf => ?_))⟩⟩
          · simp only [holds, X.den, PE.den, SV.den, SV.denL, NK.val, NK.sv, NK.pub, gv_zero, gv_succ, vi_int, vb_bool, vlen_sl, vaddr_ptr, vb_ite, vi_ite, cmp_eql, cmp_neq, cmp_lss, cmp_leq, cmp_gtr, cmp_geq, List.map_nil, List.map_cons, List.cons_append, List.nil_append, List.flatten_nil, needs, Ret, true_and, and_true, decide_eq_true_eq, forall_const, intOp] at hf
            have h1' : gb B u = true ∧ gt got1 u = (c : Int) := by grind
            refine h_call0 (s30 (EdgesAt.le hl1 K.e) K.el) ?_
            rintro _ h3 ⟨e3, rfl⟩
            have e3' := e3.symm
            subst e3'
            refine ⟨[.bool (hasE g.e (u : Int) (v : Int))], ⟨⟨_, rfl⟩, trivial⟩, rfl, ?_⟩
            show J2 [.bool (vb (if hasE g.e (u : Int) (v : Int) = true then Value.bool false else .bool ok)), .int .i64 (intOp .add .i64 (u : Int) 1)] _
            rw [huadd]
            refine hJ2 _ _ ⟨u + 1, ?_, by omega, rfl⟩ (by simp only [gv_zero, gv_succ, vi_int]; omega)
            rw [hstep, h1'.1, h1'.2]
            have : hasE g.e (u : Int) (v : Int) = decide (Adj g.e u v) := by
              rw [Bool.eq_iff_iff, hasE_adj, decide_eq_true_eq]
            rw [this]
            by_cases q : Adj g.e u v
            · simp [q]
            · simp [q]
          · simp only [holds, X.den, PE.den, SV.den, SV.denL, NK.val, NK.sv, NK.pub, gv_zero, gv_succ, vi_int, vb_bool, vlen_sl, vaddr_ptr, vb_ite, vi_ite, cmp_eql, cmp_neq, cmp_lss, cmp_leq, cmp_gtr, cmp_geq, List.map_nil, List.map_cons, List.cons_append, List.nil_append, List.flatten_nil, needs, Ret, true_and, and_true, decide_eq_true_eq, forall_const, intOp] at hf
            have h1' : (gb B u && decide (gt got1 u = (c : Int))) = false := by grind
            show J2 [.bool ok, .int .i64 (intOp .add .i64 (u : Int) 1)] _
            rw [huadd]
            refine hJ2 _ _ ⟨u + 1, ?_, by omega, rfl⟩ (by simp only [gv_zero, gv_succ, vi_int]; omega)
            rw [hstep, h1']; simp
        · replace he : cmpOp .lss (u : Int) (v : Int) = false := he
          rw [cmp_lss, decide_eq_false_iff_not] at he
          obtain rfl : u = v := by omega
          refine h_ite (fun hf => ?_) (fun hf => ?_)
          · replace hf : ((List.range u).all fun x => !(gb B x && decide (gt got1 x = (c : Int)) && decide (Adj g.e x u))) = true := hf
            have hfree : ∀ x, x < u → gb B x = true → Adj g.e x u → gt got1 x ≠ (c : Int) := fun x hx hi ha e => by
              have := List.all_eq_true.1 hf x (List.mem_range.2 hx)
              rw [hi, e] at this
              simp [ha] at this
            obtain ⟨w1, w2, w3⟩ := rowF_set (x := .int .i64 (c : Int)) (i := u) kg (by rw [List.length_map]; omega)
            have hg2 : ∀ x, gt (got1.set u (c : Int)) x = if x = u then (c : Int) else gt got1 x := fun x => gt_set (by omega)
            refine ⟨fun _ => needIx (i := u) (v := gotv) rfl rfl (hgl1'.trans hgl1) (by omega), ?_⟩
            refine h_store ((vaddr gotv).add (u * 1)) [.int .i64 (c : Int)] rfl rfl (by rw [Nat.mul_one]; exact w1) ?_
            rw [Nat.mul_one]
            have hl2 : h0.le (h1.sets ((vaddr gotv).add u) [.int .i64 (c : Int)]) := w3.le hl1 hfn
            have kg2 : RowF (h1.sets ((vaddr gotv).add u) [.int .i64 (c : Int)]) 3 1 gotv ((got1.set u (c : Int)).map (.int .i64)) fn := by rw [List.map_set]; exact w2
            have hrec := ih (v := u + 1) (by omega) hl2 kg2 (by rw [List.length_set]; exact hgl1) ⟨fun x hx hi => by
                rw [hg2]
                by_cases e : x = u
                · rw [if_pos e]; omega
                · rw [if_neg e, ag1 x (by omega)]; exact pre.1 x (by omega) hi, fun x y hxy hy hi hj ha => by
                rw [hg2, hg2, if_neg (by omega : x ≠ u)]
                by_cases e : y = u
                · rw [if_pos e]; rw [e] at ha hxy; exact hfree x hxy hi ha
                · rw [if_neg e, ag1 x (by omega), ag1 y (by omega)]; exact pre.2 x y hxy (by omega) hi hj ha⟩
            refine h_call0 (Q := fun r h' => h0.le h' ∧ ∃ got', RowF h' 3 1 gotv (got'.map (.int .i64)) fn ∧ got'.length = N ∧ (∀ x, x < u + 1 → gt got' x = gt (got1.set u (c : Int)) x) ∧ ∃ b, r = .bool b ∧ (b = true ↔ ∃ f, Way g.e k N (gb B) (u + 1) (gt (got1.set u (c : Int))) f)) ?_ ?_
            · show CallsA _ _ (fun _ => [grV g ve vm, .int .i64 k, inv, gotv, .int .i64 (intOp .add .i64 (u : Int) 1)]) [] _ _
              rw [hvadd]; exact hrec
            · rintro _ h3 ⟨l3, got3, kg3, hgl3, ag3, b, rfl, hb⟩
              have agu : ∀ x, x < u → gt got3 x = gt got x := fun x hx => by rw [ag3 x (by omega), hg2, if_neg (by omega), ag1 x hx]
              refine ⟨[.bool b], ⟨⟨_, rfl⟩, trivial⟩, rfl, h_ite (fun hq => ?_) (fun hq => ?_)⟩
              · replace hq : b = true := hq
                refine ⟨rfl, l3, got3, kg3, hgl3, agu, true, rfl, ⟨fun _ => ?_, fun _ => rfl⟩⟩
                obtain ⟨f, f1, f2⟩ := hb.1 hq
                exact ⟨f, fun x hx hi => by rw [f1 x (by omega) hi, hg2, if_neg (by omega), ag1 x hx], f2⟩
              · replace hq : b = false := hq
                show J [.int .i64 (intOp .add .i64 (c : Int) 1)] _
                rw [hcadd]
                refine hJ _ _ ⟨c + 1, got3, rfl, by omega, l3, kg3, hgl3, agu, fun f hf => ?_⟩ (by simp only [gv_zero, vi_int]; omega)
                have h1 := no f hf
                by_cases e : f u = (c : Int)
                · exfalso
                  have := hb.2 ⟨f, fun x hx hi => by
                    rw [hg2]
                    by_cases e' : x = u
                    · rw [if_pos e', e']; exact e
                    · rw [if_neg e', ag1 x (by omega)]; exact hf.1 x (by omega) hi, hf.2⟩
                  rw [hq] at this; cases this
                · omega
          · replace hf : ((List.range u).all fun x => !(gb B x && decide (gt got1 x = (c : Int)) && decide (Adj g.e x u))) = false := hf
            rw [List.all_eq_false] at hf
            obtain ⟨x, hx, hx2⟩ := hf
            rw [List.mem_range] at hx
            simp only [Bool.not_eq_true, Bool.not_eq_false', Bool.and_eq_true, decide_eq_true_eq] at hx2
            show J [.int .i64 (intOp .add .i64 (c : Int) 1)] _
            rw [hcadd]
            refine hJ _ _ ⟨c + 1, got1, rfl, by omega, hl1, kg, hgl1, ag1, fun f hf => ?_⟩ (by simp only [gv_zero, vi_int]; omega)
            have h1 := no f hf
            have h2 := hf.2.2 x u hx hvN hx2.1.1 hc hx2.2
            rw [hf.1 x hx hx2.1.1, ← ag1 x hx, hx2.1.2] at h2
            omega
      · replace hd : cmpOp .lss (c : Int) k = false := hd
        rw [cmp_lss, decide_eq_false_iff_not] at hd
        refine ⟨rfl, hl1, got1, kg, hgl1, ag1, false, rfl, ⟨fun h => absurd h (by simp), fun ⟨f, hf⟩ => ?_⟩⟩
        have h1 := no f hf
        have h2 := (hf.2.1 v hvN hc).2
        omega

/-! ### All sets -/
theorem shl_i64 {s : Nat} (hs : s < 60) : intOp .shl .i64 1 (s : Int) = ((2 ^ s : Nat) : Int) := by
  have hp : 2 ^ s < 1152921504606846976 := Nat.lt_of_lt_of_eq (Nat.pow_lt_pow_right (by omega) hs) (by decide)
  simp only [intOp, IntKind.bits, Int.toNat_natCast, Int.one_mul]
  rw [Nat.min_eq_left (by omega)]
  have : ((2 : Int) ^ s) = ((2 ^ s : Nat) : Int) := by simp
  rw [this]
  generalize 2 ^ s = p at hp
  exact wrap_i64 (by omega) (by omega)
theorem shr_i64 {w s : Nat} (hs : s < 60) : intOp .shr .i64 (w : Int) (s : Int) = ((w >>> s : Nat) : Int) := by
  simp only [intOp, IntKind.bits, Int.toNat_natCast]
  rw [Nat.min_eq_left (by omega), Nat.shiftRight_eq_div_pow]
  have : ((2 : Int) ^ s) = ((2 ^ s : Nat) : Int) := by simp
  rw [this, Int.fdiv_eq_ediv_of_nonneg _ (Int.natCast_nonneg _)]; rfl
theorem and1_i64 (n : Nat) : intOp .and .i64 (n : Int) 1 = ((n % 2 : Nat) : Int) := by
  have e : (BitVec.ofInt 64 (n : Int) &&& BitVec.ofInt 64 1).toNat = n % 2 := by
    rw [BitVec.toNat_and]
    have h1 : (BitVec.ofInt 64 (n : Int)).toNat = n % 2 ^ 64 := by simp [BitVec.toNat_ofInt]
    have h2 : (BitVec.ofInt 64 1).toNat = 1 := by decide
    rw [h1, h2, Nat.and_one_is_mod]; omega
  show IntKind.i64.wrap ((BitVec.ofInt 64 (n : Int) &&& BitVec.ofInt 64 1).toNat : Int) = _
  rw [e]
  exact wrap_i64 (by omega) (by omega)
theorem test_i64 {w s : Nat} (hs : s < 60) : cmpOp .eql (intOp .and .i64 (intOp .shr .i64 (w : Int) (s : Int)) 1) 1 = w.testBit s := by
  rw [shr_i64 hs, and1_i64, cmp_eql, Nat.testBit_eq_decide_div_mod_eq, Nat.shiftRight_eq_div_pow]
  rw [Bool.eq_iff_iff, decide_eq_true_eq, decide_eq_true_eq]; omega
def outF (s u : Nat) : Int := if s.testBit u = true then 0 else -1
def canS (E : EdgeL) (k : Int) (N s : Nat) : Prop := ∃ f, Way E k N (fun u => s.testBit u) 0 (fun _ => 0) f
theorem canS_iff {E : EdgeL} {k : Int} {N s : Nat} (hk : 0 ≤ k) : canS E k N s ↔ ∃ f, OkTo E k N f ∧ ∀ u, u < N → (f u < 0 ↔ s.testBit u = false) := can_ok (now := fun _ => 0) hk
theorem costS {cost f : Nat → Int} {N s : Nat} (h : ∀ u, u < N → (f u < 0 ↔ s.testBit u = false)) : costL cost f 0 N = costL cost (outF s) 0 N :=
  costL_neg N 0 fun u _ hu => by
    rw [h u (by omega)]
    unfold outF
    cases s.testBit u <;> simp
/-- The best of those that were tried. -/
def Tried (E : EdgeL) (k : Int) (cost : Nat → Int) (N s : Nat) (best : Int) : Prop :=
  (best = -1 ∧ ∀ t, t < s → ¬ canS E k N t) ∨ (0 ≤ best ∧ (∃ t, t < s ∧ canS E k N t ∧ best = costL cost (outF t) 0 N) ∧ ∀ t, t < s → canS E k N t → best ≤ costL cost (outF t) 0 N)
theorem tried_all {E : EdgeL} {k : Int} {cost : Nat → Int} {N : Nat} {best : Int} (hk : 0 ≤ k) (h : Tried E k cost N (2 ^ N) best) : LeastIs E k cost N best := by
  have key : ∀ f, OkTo E k N f → ∃ t, t < 2 ^ N ∧ canS E k N t ∧ costL cost f 0 N = costL cost (outF t) 0 N := fun f hf => by
    obtain ⟨t, h1, h2⟩ := bits_of (fun u => decide (0 ≤ f u)) N
    have h3 : ∀ u, u < N → (f u < 0 ↔ t.testBit u = false) := fun u hu => by
      rw [h2 u hu, decide_eq_false_iff_not]; omega
    exact ⟨t, h1, (canS_iff hk).2 ⟨f, hf, h3⟩, costS h3⟩
  rcases h with ⟨_, h⟩ | ⟨h0, ⟨t, h1, h2, h3⟩, h4⟩
  · obtain ⟨t, h1, h2, _⟩ := key (fun _ => -1) ⟨fun u _ => by show (-1 : Int) ≤ -1 ∧ (-1 : Int) < k; omega, fun u v _ _ _ h0 => by
      have h1 : (0 : Int) ≤ -1 := h0
      omega⟩
    exact absurd h2 (h t h1)
  · obtain ⟨f, f1, f2⟩ := (canS_iff hk).1 h2
    refine ⟨⟨f, f1, by rw [h3, costS f2]⟩, fun f hf => ?_⟩
    obtain ⟨t, q1, q2, q3⟩ := key f hf
    rw [q3]; exact h4 t q1 q2
theorem mk_boolsC {h : H} {b n : Nat} : RowF (h.put b (.cells (repZ ((zeroCells Tryd.prog 4).getD []) n).toArray 4 (0, 0))) 4 1 (.slice (some ⟨b, 0, none⟩) n n) ((List.replicate n false).map .bool) [b] := by
  rw [zero_bool, repZ_bool]
  have := RowF.new (h := h) (e := 4) (sz := 1) (b := b) (n := n) (c := n) (cs := (List.replicate n false).map Value.bool) (r := []) (by simp) (by simp) (Nat.le_refl _)
  rwa [List.append_nil] at this
theorem repl_gb {n u : Nat} : gb (List.replicate n false) u = false := by
  unfold gb; rw [List.getD_eq_getElem?_getD, List.getElem?_replicate]; split <;> rfl
theorem s17 {cv : Value} {cost : List Int} (K : GrAt h ve vm g) (hN : N = g.n.toNat) (hn0 : 0 ≤ g.n) (hN14 : N ≤ 14) (hcv : IntsAt h cv cost) (hcl : cost.length = N) (hc : ∀ u, u < N → 0 ≤ costF cost u ∧ costF cost u ≤ 1000) (hk0 : 1 ≤ k) (hk8 : k ≤ 8) :
    CallsA Tryd.prog 17 (fun _ => [grV g ve vm, .int .i64 k, cv]) [] h (Ret fun r h' => h.le h' ∧ ∃ s, r = .int .i64 s ∧ LeastIs g.e k (costF cost) N s) := by
  refine c17 (G := [.int .i64 g.n, ve, vm, .int .i64 k, cv]) ⟨⟨_, rfl⟩, K.e.fit, K.m.fit, ⟨_, rfl⟩, hcv.fit, trivial⟩ ?_
  have hgn : g.n = (N : Int) := by omega
  have hcl' := hcv.len
  have hshl : intOp .shl .i64 1 g.n = ((2 ^ N : Nat) : Int) := by rw [hgn]; exact shl_i64 (by omega)
  have hp : 2 ^ N ≤ 16384 := Nat.le_trans (Nat.pow_le_pow_right (by omega) hN14) (by decide)
  refine h_loop (fun xs h' => ∃ (best : Int) (s : Nat), xs = [.int .i64 best, natV s] ∧ s ≤ 2 ^ N ∧ h.le h' ∧ Tried g.e k (costF cost) N s best) (fun xs h' => 2 ^ N - (vi (gv xs 1)).toNat) ⟨-1, 0, rfl, Nat.zero_le _, H.le_refl _, .inl ⟨rfl, fun t ht => absurd ht (Nat.not_lt_zero _)⟩⟩ ?_
  rintro xs h1 J - ⟨best, s, rfl, hs, l1, T⟩ hJ
  refine ⟨fun _ => ⟨?_, trivial⟩, h_ite (fun hd => ?_) (fun hd => ?_)⟩
  · show cmpOp .geq g.n 0 = true
    rw [cmp_geq, decide_eq_true_eq]; exact hn0
  · replace hd : cmpOp .lss (s : Int) (intOp .shl .i64 1 g.n) = true := hd
    rw [hshl, cmp_lss, decide_eq_true_eq] at hd
    have hsl : s < 2 ^ N := by omega
    have hsadd : intOp .add .i64 (s : Int) 1 = ((s + 1 : Nat) : Int) := int_add_one (n := 100000) (by omega) (by omega)
    refine ⟨hn0, (by omega : g.n * 1 ≤ 281474976710656), ?_⟩
    intro b hb
    have hb0 := H.le_none l1 hb
    have kb := mk_boolsC (h := h1) (b := b) (n := g.n.toNat)
    have l2 : h1.le (h1.put b (.cells (repZ ((zeroCells Tryd.prog 4).getD []) g.n.toNat).toArray 4 (0, 0))) := H.le_put hb
    show holds _ _ _ ([.int .i64 g.n, ve, vm, .int .i64 k, cv] ++ [.int .i64 best, natV s] ++ [.slice (some ⟨b, 0, none⟩) g.n.toNat g.n.toNat]) _ (h1.put b (.cells (repZ ((zeroCells Tryd.prog 4).getD []) g.n.toNat).toArray 4 (0, 0)))
    generalize (h1.put b (.cells (repZ ((zeroCells Tryd.prog 4).getD []) g.n.toNat).toArray 4 (0, 0))) = h2 at kb l2
    generalize Value.slice (some ⟨b, 0, none⟩) g.n.toNat g.n.toNat = inv at kb
    rw [← hN] at kb
    have fb : Fresh h [b] := fun z hz => by rw [List.mem_singleton] at hz; subst hz; exact hb0
    refine h_loop (fun xs h' => ∃ (v : Nat) (B : List Bool), xs = [.int .i64 (costL (costF cost) (outF s) 0 v), natV v] ∧ v ≤ N ∧ h.le h' ∧ RowF h' 4 1 inv (B.map .bool) [b] ∧ B.length = N ∧ ∀ u, gb B u = (decide (u < v) && s.testBit u)) (fun xs h' => N - (vi (gv xs 1)).toNat)
      ⟨0, _, rfl, Nat.zero_le _, l1.trans l2, kb, by simp, fun u => by rw [repl_gb]; simp⟩ ?_
    clear kb l2
    rintro xs h3 J2 - ⟨v, B, rfl, hv, l3, kb, hB, hBu⟩ hJ2
    have hil := (rowF_bools kb).len
    refine h_ite (fun he => ?_) (fun he => ?_)
    · replace he : cmpOp .lss (v : Int) g.n = true := he
      rw [hgn, cmp_lss, decide_eq_true_eq] at he
      have hvN : v < N := by omega
      have hvadd : intOp .add .i64 (v : Int) 1 = ((v + 1 : Nat) : Int) := int_add_one (n := 1000) (by omega) (by omega)
      have hcs := costL_snoc (costF cost) (outF s) v 0
      rw [Nat.zero_add] at hcs
      refine ⟨fun _ => ⟨ge0 v, trivial⟩, h_ite (fun hf => ?_) (fun hf => ?_)⟩
      · replace hf : cmpOp .eql (intOp .and .i64 (intOp .shr .i64 (s : Int) (v : Int)) 1) 1 = true := hf
        rw [test_i64 (by omega)] at hf
        rw [show outF s v = 0 by unfold outF; rw [if_pos hf], if_neg (by omega : ¬ (0 : Int) < 0), Int.add_zero] at hcs
        obtain ⟨w1, w2, w3⟩ := rowF_set (x := .bool true) (i := v) kb (by rw [List.length_map]; omega)
        refine ⟨fun _ => needIx (i := v) (v := inv) rfl rfl (hil.trans hB) hvN, ?_⟩
        refine h_store ((vaddr inv).add (v * 1)) [.bool true] rfl rfl (by rw [Nat.mul_one]; exact w1) ?_
        rw [Nat.mul_one]
        show J2 [.int .i64 (costL (costF cost) (outF s) 0 v), .int .i64 (intOp .add .i64 (v : Int) 1)] _
        rw [hvadd, ← hcs]
        refine hJ2 _ _ ⟨v + 1, B.set v true, rfl, by omega, w3.le l3 fb, by rw [List.map_set]; exact w2, by rw [List.length_set]; exact hB, fun u => ?_⟩ (by simp only [gv_zero, gv_succ, vi_int]; omega)
        rw [gb_set (by omega)]
        by_cases e : u = v
        · rw [if_pos e, e, hf]; simp
        · rw [if_neg e, hBu]
          congr 1
          rw [Bool.eq_iff_iff, decide_eq_true_eq, decide_eq_true_eq]; omega
      · replace hf : cmpOp .eql (intOp .and .i64 (intOp .shr .i64 (s : Int) (v : Int)) 1) 1 = false := hf
        rw [test_i64 (by omega)] at hf
        rw [show outF s v = -1 by unfold outF; rw [if_neg (by rw [hf]; simp)], if_pos (by omega : (-1 : Int) < 0)] at hcs
        have hx := costF_some (l := cost) (v := v) (by omega)
        have b1 := costL_nonneg (cost := costF cost) (f := outF s) v 0 fun u _ hu => (hc u (by omega)).1
        have b2 := costL_le (cost := costF cost) (f := outF s) (c := 1000) (by omega) v 0 fun u _ hu => (hc u (by omega)).2
        have b3 := hc v hvN
        refine ⟨fun _ => needIx (i := v) (v := cv) rfl rfl (hcl'.trans hcl) hvN, h_load [.int .i64 (costF cost v)] ⟨⟨_, rfl⟩, trivial⟩ (fun _ => (hcv.read hx).le l3) ?_⟩
        show J2 [.int .i64 (intOp .add .i64 (costL (costF cost) (outF s) 0 v) (costF cost v)), .int .i64 (intOp .add .i64 (v : Int) 1)] _
        have e : intOp .add .i64 (costL (costF cost) (outF s) 0 v) (costF cost v) = costL (costF cost) (outF s) 0 (v + 1) := by
          simp only [intOp]; rw [wrap_i64 (by omega) (by omega), hcs]
        rw [hvadd, e]
        refine hJ2 _ _ ⟨v + 1, B, rfl, by omega, l3, kb, hB, fun u => ?_⟩ (by simp only [gv_zero, gv_succ, vi_int]; omega)
        rw [hBu]
        by_cases e : u = v
        · rw [e, hf]; simp
        · congr 1
          rw [Bool.eq_iff_iff, decide_eq_true_eq, decide_eq_true_eq]; omega
    · replace he : cmpOp .lss (v : Int) g.n = false := he
      rw [hgn, cmp_lss, decide_eq_false_iff_not] at he
      obtain rfl : v = N := by omega
      have hBs : ∀ u, u < v → gb B u = s.testBit u := fun u hu => by rw [hBu]; simp [hu]
      have hc0 := costL_nonneg (cost := costF cost) (f := outF s) v 0 fun u _ hu => (hc u (by omega)).1
      have hway : ∀ nw, (∃ f, Way g.e k v (gb B) 0 nw f) ↔ canS g.e k v s := fun nw => by
        unfold canS Way
        constructor
        · rintro ⟨f, _, f2, f3⟩
          exact ⟨f, fun u hu => absurd hu (Nat.not_lt_zero _), fun u hu hi => f2 u hu (by rw [hBs u hu]; exact hi), fun u w huw hw hi hj => f3 u w huw hw (by rw [hBs u (by omega)]; exact hi) (by rw [hBs w hw]; exact hj)⟩
        · rintro ⟨f, _, f2, f3⟩
          exact ⟨f, fun u hu => absurd hu (Nat.not_lt_zero _), fun u hu hi => f2 u hu ((hBs u hu).symm.trans hi), fun u w huw hw hi hj => f3 u w huw hw ((hBs u (by omega)).symm.trans hi) ((hBs w hw).symm.trans hj)⟩
      refine h_ite (fun hf => ?_) (fun hf => ?_)
      · simp only [holds, X.den, PE.den, SV.den, SV.denL, NK.val, NK.sv, NK.pub, gv_zero, gv_succ, vi_int, vb_bool, vlen_sl, vaddr_ptr, vb_ite, vi_ite, cmp_eql, cmp_neq, cmp_lss, cmp_leq, cmp_gtr, cmp_geq, List.map_nil, List.map_cons, List.cons_append, List.nil_append, List.flatten_nil, needs, Ret, true_and, and_true, decide_eq_true_eq, forall_const, intOp] at hf
        have hlt : best < 0 ∨ costL (costF cost) (outF s) 0 v < best := by grind
        refine ⟨hn0, (by omega : g.n * 8 ≤ 281474976710656), ?_⟩
        intro b2 hb2
        have kw := mk_ints (h := h3) (b := b2) (n := g.n.toNat)
        have l4 : h3.le (h3.put b2 (.cells (repZ ((zeroCells Tryd.prog 3).getD []) g.n.toNat).toArray 3 (0, 0))) := H.le_put hb2
        show holds _ _ _ ([.int .i64 g.n, ve, vm, .int .i64 k, cv] ++ [.int .i64 best, natV s] ++ [inv] ++ [.int .i64 (costL (costF cost) (outF s) 0 v), natV v] ++ [.slice (some ⟨b2, 0, none⟩) g.n.toNat g.n.toNat]) _ (h3.put b2 (.cells (repZ ((zeroCells Tryd.prog 3).getD []) g.n.toNat).toArray 3 (0, 0)))
        generalize (h3.put b2 (.cells (repZ ((zeroCells Tryd.prog 3).getD []) g.n.toNat).toArray 3 (0, 0))) = h4 at kw l4
        generalize Value.slice (some ⟨b2, 0, none⟩) g.n.toNat g.n.toNat = gotv at kw
        rw [← hN] at kw
        have f3 : Fresh h3 [b2] := fun z hz => by rw [List.mem_singleton] at hz; subst hz; exact hb2
        have l5 : h3.le (H.cut h4 [b2]) := H.le_cut l4 f3
        have hrec := can_calls (K.le (l3.trans l5)) hN hn0 hN14 (SlAt.le boolC_mono l5 (rowF_bools kb)) hB hk0 hk8 (H.cut_fresh h4 [b2]) v (v := 0) (by omega) (H.cut_le _ _) kw (by simp) ⟨fun u hu => absurd hu (Nat.not_lt_zero _), fun u w _ hw => absurd hw (Nat.not_lt_zero _)⟩
        refine h_call0 hrec ?_
        rintro _ h6 ⟨l6, got', -, -, -, bb, rfl, hbb⟩
        rw [hway] at hbb
        refine ⟨[.bool bb], ⟨⟨_, rfl⟩, trivial⟩, rfl, ?_⟩
        show J [.int .i64 (vi (if bb = true then Value.int .i64 (costL (costF cost) (outF s) 0 v) else .int .i64 best)), .int .i64 (intOp .add .i64 (s : Int) 1)] _
        rw [hsadd]
        refine hJ _ _ ⟨_, s + 1, rfl, by omega, l3.trans (l5.trans l6), ?_⟩ (by simp only [gv_zero, gv_succ, vi_int]; omega)
        cases bb with
        | true =>
          have hcan := hbb.1 rfl
          refine .inr ⟨hc0, ⟨s, by omega, hcan, rfl⟩, fun t ht hct => ?_⟩
          show costL (costF cost) (outF s) 0 v ≤ _
          by_cases e : t = s
          · rw [e]; exact Int.le_refl _
          · rcases T with ⟨_, T⟩ | ⟨_, _, T⟩
            · exact absurd hct (T t (by omega))
            · have := T t (by omega) hct
              omega
        | false =>
          have hcan : ¬ canS g.e k v s := fun q => by have := hbb.2 q; cases this
          show Tried _ _ _ _ _ best
          rcases T with ⟨T1, T2⟩ | ⟨T0, ⟨t, t1, t2, t3⟩, T2⟩
          · refine .inl ⟨T1, fun t ht => ?_⟩
            by_cases e : t = s
            · rw [e]; exact hcan
            · exact T2 t (by omega)
          · refine .inr ⟨T0, ⟨t, by omega, t2, t3⟩, fun t ht hct => ?_⟩
            by_cases e : t = s
            · rw [e] at hct; exact absurd hct hcan
            · exact T2 t (by omega) hct
      · simp only [holds, X.den, PE.den, SV.den, SV.denL, NK.val, NK.sv, NK.pub, gv_zero, gv_succ, vi_int, vb_bool, vlen_sl, vaddr_ptr, vb_ite, vi_ite, cmp_eql, cmp_neq, cmp_lss, cmp_leq, cmp_gtr, cmp_geq, List.map_nil, List.map_cons, List.cons_append, List.nil_append, List.flatten_nil, needs, Ret, true_and, and_true, decide_eq_true_eq, forall_const, intOp] at hf
        have hle : 0 ≤ best ∧ best ≤ costL (costF cost) (outF s) 0 v := by grind
        show J [.int .i64 best, .int .i64 (intOp .add .i64 (s : Int) 1)] _
        rw [hsadd]
        refine hJ _ _ ⟨best, s + 1, rfl, by omega, l3, ?_⟩ (by simp only [gv_zero, gv_succ, vi_int]; omega)
        rcases T with ⟨T1, _⟩ | ⟨T0, ⟨t, t1, t2, t3⟩, T2⟩
        · omega
        · refine .inr ⟨T0, ⟨t, by omega, t2, t3⟩, fun t ht hct => ?_⟩
          by_cases e : t = s
          · rw [e]; exact hle.2
          · exact T2 t (by omega) hct
  · replace hd : cmpOp .lss (s : Int) (intOp .shl .i64 1 g.n) = false := hd
    rw [hshl, cmp_lss, decide_eq_false_iff_not] at hd
    obtain rfl : s = 2 ^ N := by omega
    exact ⟨rfl, l1, best, rfl, tried_all (by omega) T⟩
end
end Go.Proofs.YtbgfabppmobpgaaDoor
