/-
  Words for what memory holds (rows of parts, by a rule for one part), and how a contract's goal is laid open. Conditions: none (definitions and plain lemmas).
-/
import Derived.Test.YtibdneedfopcoaaEv24
import Derived.Laws.Append
set_option linter.unusedVariables false
set_option linter.unusedSimpArgs false
namespace Go.Proofs.Ytibdneedfopcoaa
open Go

/-! ### More memory is at hand -/
def H.le (h h' : H) : Prop := ∀ b o, h b = some o → h' b = some o
theorem H.le_refl (h : H) : h.le h := fun _ _ e => e
theorem H.le.trans {h h' h'' : H} (a : h.le h') (b : h'.le h'') : h.le h'' := fun x o e => b x o (a x o e)
theorem H.le_put {h : H} {b : Nat} {o : Obj} (hb : h b = none) : h.le (h.put b o) := fun x o' e => by
  unfold H.put
  split
  · rename_i hx; rw [hx, hb] at e; cases e
  · exact e
theorem H.le_none {h h' : H} (hl : h.le h') {b : Nat} (hb : h' b = none) : h b = none := by
  cases e : h b with
  | none => rfl
  | some o => rw [hl _ _ e] at hb; cases hb
theorem H.put_same {h : H} {b : Nat} {o : Obj} : (h.put b o) b = some o := by simp [H.put]
theorem H.put_other {h : H} {b c : Nat} {o : Obj} (hc : c ≠ b) : (h.put b o) c = h c := by simp [H.put, hc]
theorem cell_le {h h' : H} (hl : h.le h') {a : Addr} {v : Value} (hc : h.cell? a = some v) : h'.cell? a = some v := by
  unfold H.cell? at hc ⊢
  split at hc
  · rename_i c e f hb; rw [hl _ _ hb]; exact hc
  · cases hc
theorem Reads.le {h h' : H} (hl : h.le h') {a : Addr} {l : List Value} (hr : Reads h a l) : Reads h' a l := fun i v e => cell_le hl (hr i v e)
theorem Writable.le {h h' : H} (hl : h.le h') {a : Addr} {n : Nat} (hr : Writable h a n) : Writable h' a n := fun i hi => by
  obtain ⟨h1, h2⟩ := hr i hi
  obtain ⟨v, hv⟩ := Option.isSome_iff_exists.1 h1
  refine ⟨by rw [cell_le hl hv]; rfl, ?_⟩
  unfold H.cell? at hv
  split at hv
  · rename_i c e f hb
    unfold H.frozen? at h2 ⊢
    rw [hl _ _ hb]; rw [hb] at h2; exact h2
  · cases hv
theorem add_lit (b o n : Nat) : (⟨b, o, none⟩ : Addr).add n = ⟨b, o + n, none⟩ := by unfold Addr.add; split <;> simp_all
theorem add_add (a : Addr) (i j : Nat) : (a.add i).add j = a.add (i + j) := by
  unfold Addr.add
  by_cases hi : i = 0 <;> by_cases hj : j = 0 <;> simp [hi, hj, Nat.add_assoc]
theorem Reads.put {h : H} {b : Nat} {l : List Value} {e : TypeId} {o : Nat} {cs : List Value} (hcs : ∀ i v, cs[i]? = some v → l[o + i]? = some v) : Reads (h.put b (.cells l.toArray e (0, 0))) (Addr.add ⟨b, 0, none⟩ o) cs := by
  intro i v hi
  have := hcs i v hi
  rw [add_lit, add_lit]; simp [H.cell?, H.put, this]
theorem Writable.put {h : H} {b : Nat} {l : List Value} {e : TypeId} {o n : Nat} (hl : o + n ≤ l.length) : Writable (h.put b (.cells l.toArray e (0, 0))) (Addr.add ⟨b, 0, none⟩ o) n := by
  intro i hi
  have : o + i < l.length := by omega
  rw [add_lit, add_lit]; simp [H.cell?, H.frozen?, H.put, this]

/-! ### Rows -/
/-- A slice whose parts, of so many cells each, stand for a list's. -/
structure SlAt {α : Type} (sz : Nat) (Rep : H → List Value → α → Prop) (h : H) (v : Value) (l : List α) : Prop where
  fit : Fits .sl v
  len : vlen v = l.length
  get : ∀ i x, l[i]? = some x → ∃ cs, Rep h cs x ∧ Reads h ((vaddr v).add (i * sz)) cs
def Mono {α : Type} (Rep : H → List Value → α → Prop) : Prop := ∀ h h' cs x, h.le h' → Rep h cs x → Rep h' cs x
theorem SlAt.le {α : Type} {sz : Nat} {Rep : H → List Value → α → Prop} (hm : Mono Rep) {h h' : H} (hl : h.le h') {v : Value} {l : List α} (H : SlAt sz Rep h v l) : SlAt sz Rep h' v l :=
  ⟨H.fit, H.len, fun i x hi => by obtain ⟨cs, h1, h2⟩ := H.get i x hi; exact ⟨cs, hm _ _ _ _ hl h1, h2.le hl⟩⟩
theorem fits_nil : Fits .sl (.slice none 0 0) := ⟨none, 0, 0, rfl, fun _ => ⟨rfl, rfl⟩, Nat.le_refl _⟩
theorem SlAt.nil {α : Type} {sz : Nat} {Rep : H → List Value → α → Prop} {h : H} : SlAt sz Rep h (.slice none 0 0) ([] : List α) := ⟨fits_nil, rfl, fun i x hi => by simp at hi⟩
theorem SlAt.empty {α : Type} {sz : Nat} {Rep : H → List Value → α → Prop} {h : H} {v : Value} (hf : Fits .sl v) (h0 : vlen v = 0) : SlAt sz Rep h v ([] : List α) := ⟨hf, h0, fun i x hi => by simp at hi⟩
def IntC (_ : H) (cs : List Value) (n : Int) : Prop := cs = [.int .i64 n]
theorem intC_mono : Mono IntC := fun _ _ _ _ _ h => h
abbrev IntsAt := SlAt 1 IntC
theorem IntsAt.le {h h' : H} (hl : h.le h') {v : Value} {l : List Int} (H : IntsAt h v l) : IntsAt h' v l := SlAt.le intC_mono hl H
theorem IntsAt.read {h : H} {v : Value} {l : List Int} (H : IntsAt h v l) {i : Nat} {x : Int} (hi : l[i]? = some x) : Reads h ((vaddr v).add (i * 1)) [.int .i64 x] := by
  obtain ⟨cs, rfl, h2⟩ := H.get i x hi; exact h2
/-- All of it, from its place on. -/
theorem IntsAt.all {h : H} {v : Value} {l : List Int} (H : IntsAt h v l) : Reads h (vaddr v) (l.map (.int .i64)) := by
  intro i w hi
  rw [List.getElem?_map, Option.map_eq_some_iff] at hi
  obtain ⟨x, hx, rfl⟩ := hi
  have := H.read hx 0 _ rfl
  rw [add_add] at this; simpa using this
def SlSrc (h : H) (N : List Value) (m : Nat) (v : Value) : Prop := match v with | .slice (some b) n _ => m = n ∧ Reads h b N | .slice none n _ => m = n ∧ n = 0 | _ => False
theorem IntsAt.src {h : H} {v : Value} {l : List Int} (H : IntsAt h v l) : SlSrc h (l.map (.int .i64)) l.length v := by
  have h1 := H.all
  have h2 := H.len
  obtain ⟨a, n, c, rfl, h3, h4⟩ := H.fit
  cases a with
  | none => exact ⟨h2.symm, (h3 rfl).1⟩
  | some b => exact ⟨h2.symm, h1⟩
theorem ints_new {h : H} {b : Nat} {e : TypeId} {l : List Int} {r : List Value} {c : Nat} (hc : l.length ≤ c) : IntsAt (h.put b (.cells (l.map (Value.int .i64) ++ r).toArray e (0, 0))) (.slice (some ⟨b, 0, none⟩) l.length c) l := by
  refine ⟨⟨_, _, _, rfl, (fun e => by cases e), hc⟩, rfl, fun i x hi => ⟨_, rfl, ?_⟩⟩
  refine Reads.put fun j v hj => ?_
  have hlt := (List.getElem?_eq_some_iff.1 hi).1
  cases j with
  | zero => simp at hj; subst hj; rw [List.getElem?_append_left (by simpa using hlt)]; simp [hi]
  | succ j => simp at hj

/-! ### What a function answers, with no chunks -/
def Ret (Q : Value → H → Prop) (v : Value) (cs : List (List Value)) (h : H) : Prop := cs = [] ∧ Q v h

/-! ### Words that lay a goal open -/
theorem vb_ite (c : Prop) [Decidable c] (x y : Value) : vb (if c then x else y) = if c then vb x else vb y := by split <;> rfl
theorem vi_ite (c : Prop) [Decidable c] (x y : Value) : vi (if c then x else y) = if c then vi x else vi y := by split <;> rfl
theorem cmp_eql (x y : Int) : cmpOp .eql x y = decide (x = y) := by simp only [cmpOp]; rfl
theorem cmp_neq (x y : Int) : cmpOp .neq x y = decide (x ≠ y) := by simp [cmpOp, bne, BEq.beq, decide_not]
theorem cmp_lss (x y : Int) : cmpOp .lss x y = decide (x < y) := rfl
theorem cmp_leq (x y : Int) : cmpOp .leq x y = decide (x ≤ y) := rfl
theorem cmp_gtr (x y : Int) : cmpOp .gtr x y = decide (y < x) := rfl
theorem cmp_geq (x y : Int) : cmpOp .geq x y = decide (y ≤ x) := rfl
theorem ite_tt (c : Prop) [Decidable c] (b : Bool) : (if c then true else b) = (decide c || b) := by by_cases h : c <;> simp [h]
theorem ite_ff (c : Prop) [Decidable c] (b : Bool) : (if c then b else false) = (decide c && b) := by by_cases h : c <;> simp [h]
theorem wrap_i64 {n : Int} (h1 : -9223372036854775808 ≤ n) (h2 : n < 9223372036854775808) : IntKind.i64.wrap n = n := by
  simp [IntKind.wrap, IntKind.bits, IntKind.signed, Int.bmod]; try omega
theorem exF {xs : List Value} (Q : List Value → Prop) (h : Q xs) : ∃ ys, Q ys := ⟨xs, h⟩

/-! ### Steps -/
section
variable {P : Program} {R : Value → List (List Value) → H → Prop} {G : List Value} {L : Lv} {h : H}
theorem h_ite {c : X} {a b : Out} (ha : vb (c.den G) = true → holds P R a G L h) (hb : vb (c.den G) = false → holds P R b G L h) : holds P R (.ite c a b) G L h := ⟨ha, hb⟩
theorem h_call0 {f : FuncId} {args : List SV} {rs : List (Bool × List Sh)} {k : Out} {Q : Value → H → Prop} (hc : CallsA P f (fun e => SV.denL G (fun j => e (kIdx [] j)) args) [] h (Ret Q))
    (hk : ∀ v h', Q v h' → ∃ xs, FitsL (rshs rs) xs ∧ v = rval rs xs ∧ holds P R k (G ++ xs) L h') : holds P R (.call f args [] [] [] rs k) G L h :=
  CallsA.mono hc fun v cs' h' ⟨he, hq⟩ => by
    obtain ⟨xs, h1, h2, h3⟩ := hk v h' hq
    subst he
    exact ⟨xs, h1, h2, trivial, h3⟩
theorem h_load {g : X} {p : PE} {shs : List Sh} {k : Out} (xs : List Value) (h1 : FitsL shs xs) (h2 : vb (g.den G) = true → Reads h (p.den G) xs) (h3 : holds P R k (G ++ xs) L h) : holds P R (.load g p shs k) G L h := ⟨xs, h1, h2, h3⟩
theorem h_loop {lvl : Nat} {ini : List SV} {shs : List Sh} {body : Out} (I : List Value → H → Prop) (μ : List Value → H → Nat) (h0 : I (SV.denL G dE ini) h)
    (hs : ∀ xs h' J, FitsL shs xs → I xs h' → (∀ ys h'', I ys h'' → μ ys h'' < μ xs h' → J ys h'') → holds P R body (G ++ xs) (List.take lvl L ++ [J]) h') : holds P R (.loop lvl ini shs body) G L h :=
  ⟨I, μ, h0, fun xs h' hf hI => hs xs h' _ hf hI fun ys h'' a b => ⟨a, b⟩⟩
theorem gv_last {v : Value} : gv (G ++ [v]) G.length = v := by simp [gv, List.getD_eq_getElem?_getD]
theorem gv_of_lt {G D : List Value} {i : Nat} (hi : i < G.length) : gv (G ++ D) i = gv G i := gv_append hi
theorem int_add_one {k n : Nat} (hk : k < n) (hn : n ≤ 4000000000000000000) : intOp .add .i64 (k : Int) 1 = ((k + 1 : Nat) : Int) := by
  simp only [intOp]
  rw [wrap_i64 (by omega) (by omega)]
  simp
/-- A loop over a slice's places. -/
theorem h_range {lvl j k n : Nat} {body fin : Out} (Inv : Nat → H → Prop) (hj : vlen (gv G j) = n) (hjk : j < k) (hk : G.length = k) (hn : n ≤ 4000000000000000000) (h0 : Inv 0 h)
    (hb : ∀ i h' J, i < n → Inv i h' → (∀ h'', Inv (i + 1) h'' → J [.int .i64 (intOp .add .i64 (i : Int) 1)] h'') → holds P R body (G ++ [.int .i64 (i : Int)]) (List.take lvl L ++ [J]) h')
    (hf : ∀ h' J, Inv n h' → holds P R fin (G ++ [.int .i64 (n : Int)]) (List.take lvl L ++ [J]) h') :
    holds P R (.loop lvl [.int .i64 (.lit 0)] [.int .i64] (.ite (.cmp .lss (.var k) (.len j)) (.need (.tt true) [(.cmp .geq (.var k) (.lit 0)), (.cmp .lss (.var k) (.len j))] body) fin)) G L h := by
  refine h_loop (fun xs h' => ∃ i : Nat, xs = [.int .i64 (i : Int)] ∧ i ≤ n ∧ Inv i h') (fun xs h' => n - (vi (gv xs 0)).toNat) ⟨0, rfl, Nat.zero_le _, h0⟩ ?_
  rintro xs h' J - ⟨i, rfl, hi, hI⟩ hJ
  have e1 : gv (G ++ [.int .i64 (i : Int)]) k = .int .i64 (i : Int) := by rw [← hk]; exact gv_last
  have e2 : gv (G ++ [.int .i64 (i : Int)]) j = gv G j := gv_of_lt (by omega)
  refine h_ite (fun hc => ⟨fun _ => ?_, ?_⟩) (fun hc => ?_)
  · simp only [X.den, e1, e2, hj, vb_bool, vi_int, cmp_lss, decide_eq_true_eq] at hc
    simp only [needs, X.den, e1, e2, hj, vb_bool, vi_int, cmp_lss, cmp_geq, decide_eq_true_eq, and_true]
    exact ⟨by omega, hc⟩
  · simp only [X.den, e1, e2, hj, vb_bool, vi_int, cmp_lss, decide_eq_true_eq] at hc
    refine hb i h' J (by omega) hI fun h'' hI' => ?_
    rw [int_add_one (n := n) (by omega) hn]
    refine hJ _ _ ⟨i + 1, rfl, by omega, hI'⟩ ?_
    simp only [gv_zero, vi_int]; omega
  · simp only [X.den, e1, e2, hj, vb_bool, vi_int, cmp_lss, decide_eq_false_iff_not] at hc
    have : i = n := by omega
    subst this
    exact hf h' J hI
end
end Go.Proofs.Ytibdneedfopcoaa
