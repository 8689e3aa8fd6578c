/-
  Words for what memory holds (rows of parts, by a rule for one part), and how a contract's goal is laid open. Conditions: none (definitions and plain lemmas).
-/
import Derived.Test.YtbgfabppmobpgaaDoorEc
import Derived.Laws.Append
import Derived.WalkKit
import Derived.ProofKit
import Derived.OpenShut
import Derived.ShutString
import Derived.ChangeOld
import Derived.Carry
import Derived.Deep.Slices
import Derived.JoinedCond
set_option linter.unusedVariables false
set_option linter.unusedSimpArgs false
namespace Go.Proofs.YtbgfabppmobpgaaDoor
open Go

/-! ### More memory is at hand -/
def H.le (h h' : H) : Prop := ∀ b o, h b = some o → h' b = some o
theorem H.le_refl (h : H) : h.le h := fun _ _ e => e
theorem H.le.trans {h h' h'' : H} (a : h.le h') (b : h'.le h'') : h.le h'' := fun x o e => b x o (a x o e)
theorem H.le_put {h : H} {b : Nat} {o : Obj} (hb : h b = none) : h.le (h.put b o) := fun x o' e => by
  unfold H.put
  split
  · rename_i hx; rw [hx, hb] at e; cases e
  · exact e
theorem H.le_none {h h' : H} (hl : h.le h') {b : Nat} (hb : h' b = none) : h b = none := by
  cases e : h b with
  | none => rfl
  | some o => rw [hl _ _ e] at hb; cases hb
theorem H.put_same {h : H} {b : Nat} {o : Obj} : (h.put b o) b = some o := by simp [H.put]
theorem H.put_other {h : H} {b c : Nat} {o : Obj} (hc : c ≠ b) : (h.put b o) c = h c := by simp [H.put, hc]
theorem cell_le {h h' : H} (hl : h.le h') {a : Addr} {v : Value} (hc : h.cell? a = some v) : h'.cell? a = some v := by
  unfold H.cell? at hc ⊢
  split at hc
  · rename_i c e f hb; rw [hl _ _ hb]; exact hc
  · cases hc
theorem Reads.le {h h' : H} (hl : h.le h') {a : Addr} {l : List Value} (hr : Reads h a l) : Reads h' a l := fun i v e => cell_le hl (hr i v e)
theorem Writable.le {h h' : H} (hl : h.le h') {a : Addr} {n : Nat} (hr : Writable h a n) : Writable h' a n := fun i hi => by
  obtain ⟨h1, h2⟩ := hr i hi
  obtain ⟨v, hv⟩ := Option.isSome_iff_exists.1 h1
  refine ⟨by rw [cell_le hl hv]; rfl, ?_⟩
  unfold H.cell? at hv
  split at hv
  · rename_i c e f hb
    unfold H.frozen? at h2 ⊢
    rw [hl _ _ hb]; rw [hb] at h2; exact h2
  · cases hv
theorem add_lit (b o n : Nat) : (⟨b, o, none⟩ : Addr).add n = ⟨b, o + n, none⟩ := by unfold Addr.add; split <;> simp_all
theorem add_add (a : Addr) (i j : Nat) : (a.add i).add j = a.add (i + j) := by
  unfold Addr.add
  by_cases hi : i = 0 <;> by_cases hj : j = 0 <;> simp [hi, hj, Nat.add_assoc]
theorem Reads.put {h : H} {b : Nat} {l : List Value} {e : TypeId} {o : Nat} {cs : List Value} (hcs : ∀ i v, cs[i]? = some v → l[o + i]? = some v) : Reads (h.put b (.cells l.toArray e (0, 0))) (Addr.add ⟨b, 0, none⟩ o) cs := by
  intro i v hi
  have := hcs i v hi
  rw [add_lit, add_lit]; simp [H.cell?, H.put, this]
theorem Writable.put {h : H} {b : Nat} {l : List Value} {e : TypeId} {o n : Nat} (hl : o + n ≤ l.length) : Writable (h.put b (.cells l.toArray e (0, 0))) (Addr.add ⟨b, 0, none⟩ o) n := by
  intro i hi
  have : o + i < l.length := by omega
  rw [add_lit, add_lit]; simp [H.cell?, H.frozen?, H.put, this]

/-! ### Rows -/
/-- A slice whose parts, of so many cells each, stand for a list's. -/
structure SlAt {α : Type} (sz : Nat) (Rep : H → List Value → α → Prop) (h : H) (v : Value) (l : List α) : Prop where
  fit : Fits .sl v
  len : vlen v = l.length
  get : ∀ i x, l[i]? = some x → ∃ cs, Rep h cs x ∧ Reads h ((vaddr v).add (i * sz)) cs
def Mono {α : Type} (Rep : H → List Value → α → Prop) : Prop := ∀ h h' cs x, h.le h' → Rep h cs x → Rep h' cs x
theorem SlAt.le {α : Type} {sz : Nat} {Rep : H → List Value → α → Prop} (hm : Mono Rep) {h h' : H} (hl : h.le h') {v : Value} {l : List α} (H : SlAt sz Rep h v l) : SlAt sz Rep h' v l :=
  ⟨H.fit, H.len, fun i x hi => by obtain ⟨cs, h1, h2⟩ := H.get i x hi; exact ⟨cs, hm _ _ _ _ hl h1, h2.le hl⟩⟩
theorem fits_nil : Fits .sl (.slice none 0 0) := ⟨none, 0, 0, rfl, fun _ => ⟨rfl, rfl⟩, Nat.le_refl _⟩
theorem SlAt.nil {α : Type} {sz : Nat} {Rep : H → List Value → α → Prop} {h : H} : SlAt sz Rep h (.slice none 0 0) ([] : List α) := ⟨fits_nil, rfl, fun i x hi => by simp at hi⟩
theorem SlAt.empty {α : Type} {sz : Nat} {Rep : H → List Value → α → Prop} {h : H} {v : Value} (hf : Fits .sl v) (h0 : vlen v = 0) : SlAt sz Rep h v ([] : List α) := ⟨hf, h0, fun i x hi => by simp at hi⟩
def IntC (_ : H) (cs : List Value) (n : Int) : Prop := cs = [.int .i64 n]
theorem intC_mono : Mono IntC := fun _ _ _ _ _ h => h
abbrev IntsAt := SlAt 1 IntC
theorem IntsAt.le {h h' : H} (hl : h.le h') {v : Value} {l : List Int} (H : IntsAt h v l) : IntsAt h' v l := SlAt.le intC_mono hl H
theorem IntsAt.read {h : H} {v : Value} {l : List Int} (H : IntsAt h v l) {i : Nat} {x : Int} (hi : l[i]? = some x) : Reads h ((vaddr v).add (i * 1)) [.int .i64 x] := by
  obtain ⟨cs, rfl, h2⟩ := H.get i x hi; exact h2
/-- All of it, from its place on. -/
theorem IntsAt.all {h : H} {v : Value} {l : List Int} (H : IntsAt h v l) : Reads h (vaddr v) (l.map (.int .i64)) := by
  intro i w hi
  rw [List.getElem?_map, Option.map_eq_some_iff] at hi
  obtain ⟨x, hx, rfl⟩ := hi
  have := H.read hx 0 _ rfl
  rw [add_add] at this; simpa using this
def SlSrc (h : H) (N : List Value) (m : Nat) (v : Value) : Prop := match v with | .slice (some b) n _ => m = n ∧ Reads h b N | .slice none n _ => m = n ∧ n = 0 | _ => False
theorem IntsAt.src {h : H} {v : Value} {l : List Int} (H : IntsAt h v l) : SlSrc h (l.map (.int .i64)) l.length v := by
  have h1 := H.all
  have h2 := H.len
  obtain ⟨a, n, c, rfl, h3, h4⟩ := H.fit
  cases a with
  | none => exact ⟨h2.symm, (h3 rfl).1⟩
  | some b => exact ⟨h2.symm, h1⟩
theorem ints_new {h : H} {b : Nat} {e : TypeId} {l : List Int} {r : List Value} {c : Nat} (hc : l.length ≤ c) : IntsAt (h.put b (.cells (l.map (Value.int .i64) ++ r).toArray e (0, 0))) (.slice (some ⟨b, 0, none⟩) l.length c) l := by
  refine ⟨⟨_, _, _, rfl, (fun e => by cases e), hc⟩, rfl, fun i x hi => ⟨_, rfl, ?_⟩⟩
  refine Reads.put fun j v hj => ?_
  have hlt := (List.getElem?_eq_some_iff.1 hi).1
  cases j with
  | zero => simp at hj; subst hj; rw [List.getElem?_append_left (by simpa using hlt)]; simp [hi]
  | succ j => simp at hj

/-! ### What a function answers, with no chunks -/
def Ret (Q : Value → H → Prop) (v : Value) (cs : List (List Value)) (h : H) : Prop := cs = [] ∧ Q v h

/-! ### Words that lay a goal open -/
theorem vb_ite (c : Prop) [Decidable c] (x y : Value) : vb (if c then x else y) = if c then vb x else vb y := by split <;> rfl
theorem vi_ite (c : Prop) [Decidable c] (x y : Value) : vi (if c then x else y) = if c then vi x else vi y := by split <;> rfl
theorem cmp_eql (x y : Int) : cmpOp .eql x y = decide (x = y) := by simp only [cmpOp]; rfl
theorem cmp_neq (x y : Int) : cmpOp .neq x y = decide (x ≠ y) := by simp [cmpOp, bne, BEq.beq, decide_not]
theorem cmp_lss (x y : Int) : cmpOp .lss x y = decide (x < y) := rfl
theorem cmp_leq (x y : Int) : cmpOp .leq x y = decide (x ≤ y) := rfl
theorem cmp_gtr (x y : Int) : cmpOp .gtr x y = decide (y < x) := rfl
theorem cmp_geq (x y : Int) : cmpOp .geq x y = decide (y ≤ x) := rfl
theorem ite_tt (c : Prop) [Decidable c] (b : Bool) : (if c then true else b) = (decide c || b) := by by_cases h : c <;> simp [h]
theorem ite_ff (c : Prop) [Decidable c] (b : Bool) : (if c then b else false) = (decide c && b) := by by_cases h : c <;> simp [h]
theorem wrap_i64 {n : Int} (h1 : -9223372036854775808 ≤ n) (h2 : n < 9223372036854775808) : IntKind.i64.wrap n = n := by
  simp [IntKind.wrap, IntKind.bits, IntKind.signed, Int.bmod]; try omega
theorem exF {xs : List Value} (Q : List Value → Prop) (h : Q xs) : ∃ ys, Q ys := ⟨xs, h⟩

/-! ### Steps -/
section
variable {P : Program} {R : Value → List (List Value) → H → Prop} {G : List Value} {L : Lv} {h : H}
theorem h_ite {c : X} {a b : Out} (ha : vb (c.den G) = true → holds P R a G L h) (hb : vb (c.den G) = false → holds P R b G L h) : holds P R (.ite c a b) G L h := ⟨ha, hb⟩
theorem h_call0 {f : FuncId} {args : List SV} {rs : List (Bool × List Sh)} {k : Out} {Q : Value → H → Prop} (hc : CallsA P f (fun e => SV.denL G (fun j => e (kIdx [] j)) args) [] h (Ret Q))
    (hk : ∀ v h', Q v h' → ∃ xs, FitsL (rshs rs) xs ∧ v = rval rs xs ∧ holds P R k (G ++ xs) L h') : holds P R (.call f args [] [] [] rs k) G L h :=
  CallsA.mono hc fun v cs' h' ⟨he, hq⟩ => by
    obtain ⟨xs, h1, h2, h3⟩ := hk v h' hq
    subst he
    exact ⟨xs, h1, h2, trivial, h3⟩
theorem h_load {g : X} {p : PE} {shs : List Sh} {k : Out} (xs : List Value) (h1 : FitsL shs xs) (h2 : vb (g.den G) = true → Reads h (p.den G) xs) (h3 : holds P R k (G ++ xs) L h) : holds P R (.load g p shs k) G L h := ⟨xs, h1, h2, h3⟩
theorem h_loop {lvl : Nat} {ini : List SV} {shs : List Sh} {body : Out} (I : List Value → H → Prop) (μ : List Value → H → Nat) (h0 : I (SV.denL G dE ini) h)
    (hs : ∀ xs h' J, FitsL shs xs → I xs h' → (∀ ys h'', I ys h'' → μ ys h'' < μ xs h' → J ys h'') → holds P R body (G ++ xs) (List.take lvl L ++ [J]) h') : holds P R (.loop lvl ini shs body) G L h :=
  ⟨I, μ, h0, fun xs h' hf hI => hs xs h' _ hf hI fun ys h'' a b => ⟨a, b⟩⟩
theorem gv_last {v : Value} : gv (G ++ [v]) G.length = v := by simp [gv, List.getD_eq_getElem?_getD]
theorem gv_of_lt {G D : List Value} {i : Nat} (hi : i < G.length) : gv (G ++ D) i = gv G i := gv_append hi
theorem int_add_one {k n : Nat} (hk : k < n) (hn : n ≤ 4000000000000000000) : intOp .add .i64 (k : Int) 1 = ((k + 1 : Nat) : Int) := by
  simp only [intOp]
  rw [wrap_i64 (by omega) (by omega)]
  simp
/-- A loop over a slice's places. -/
theorem h_range {lvl j k n : Nat} {body fin : Out} (Inv : Nat → H → Prop) (hj : vlen (gv G j) = n) (hjk : j < k) (hk : G.length = k) (hn : n ≤ 4000000000000000000) (h0 : Inv 0 h)
    (hb : ∀ i h' J, i < n → Inv i h' → (∀ h'', Inv (i + 1) h'' → J [.int .i64 (intOp .add .i64 (i : Int) 1)] h'') → holds P R body (G ++ [.int .i64 (i : Int)]) (List.take lvl L ++ [J]) h')
    (hf : ∀ h' J, Inv n h' → holds P R fin (G ++ [.int .i64 (n : Int)]) (List.take lvl L ++ [J]) h') :
    holds P R (.loop lvl [.int .i64 (.lit 0)] [.int .i64] (.ite (.cmp .lss (.var k) (.len j)) (.need (.tt true) [(.cmp .geq (.var k) (.lit 0)), (.cmp .lss (.var k) (.len j))] body) fin)) G L h := by
  refine h_loop (fun xs h' => ∃ i : Nat, xs = [.int .i64 (i : Int)] ∧ i ≤ n ∧ Inv i h') (fun xs h' => n - (vi (gv xs 0)).toNat) ⟨0, rfl, Nat.zero_le _, h0⟩ ?_
  rintro xs h' J - ⟨i, rfl, hi, hI⟩ hJ
  have e1 : gv (G ++ [.int .i64 (i : Int)]) k = .int .i64 (i : Int) := by rw [← hk]; exact gv_last
  have e2 : gv (G ++ [.int .i64 (i : Int)]) j = gv G j := gv_of_lt (by omega)
  refine h_ite (fun hc => ⟨fun _ => ?_, ?_⟩) (fun hc => ?_)
  · simp only [X.den, e1, e2, hj, vb_bool, vi_int, cmp_lss, decide_eq_true_eq] at hc
    simp only [needs, X.den, e1, e2, hj, vb_bool, vi_int, cmp_lss, cmp_geq, decide_eq_true_eq, and_true]
    exact ⟨by omega, hc⟩
  · simp only [X.den, e1, e2, hj, vb_bool, vi_int, cmp_lss, decide_eq_true_eq] at hc
    refine hb i h' J (by omega) hI fun h'' hI' => ?_
    rw [int_add_one (n := n) (by omega) hn]
    refine hJ _ _ ⟨i + 1, rfl, by omega, hI'⟩ ?_
    simp only [gv_zero, vi_int]; omega
  · simp only [X.den, e1, e2, hj, vb_bool, vi_int, cmp_lss, decide_eq_false_iff_not] at hc
    have : i = n := by omega
    subst this
    exact hf h' J hI
end
end Go.Proofs.YtbgfabppmobpgaaDoor

/-
  Rows of a function's own (new blocks, with room behind), and what an append makes of one. Conditions: none (definitions and plain lemmas).
-/
set_option linter.unusedVariables false
set_option linter.unusedSimpArgs false
namespace Go.Proofs.YtbgfabppmobpgaaDoor
open Go

/-- A row in a block of its own, new since h0: its first cells are these. -/
def Row (h0 h : H) (e : TypeId) (sz : Nat) (v : Value) (cs : List Value) : Prop :=
  (v = .slice none 0 0 ∧ cs = []) ∨
  ∃ b n c r, v = .slice (some ⟨b, 0, none⟩) n c ∧ h b = some (.cells (cs ++ r).toArray e (0, 0)) ∧ cs.length = n * sz ∧ r.length = (c - n) * sz ∧ n ≤ c ∧ h0 b = none
/-- All but one block is as it was. -/
def H.leX (a : Option Addr) (h h' : H) : Prop := ∀ b o, (∀ x, a = some x → b ≠ x.block) → h b = some o → h' b = some o
def vbase : Value → Option Addr | .slice a _ _ => a | .pointer a => a | _ => none
theorem Row.fit {h0 h : H} {e : TypeId} {sz : Nat} {v : Value} {cs : List Value} (H : Row h0 h e sz v cs) : Fits .sl v := by
  rcases H with ⟨rfl, rfl⟩ | ⟨b, n, c, r, rfl, h1, h2, h3, h4, h5⟩
  · exact fits_nil
  · exact ⟨_, _, _, rfl, (fun e => by cases e), h4⟩
theorem Row.len {h0 h : H} {e : TypeId} {sz : Nat} {v : Value} {cs : List Value} (H : Row h0 h e sz v cs) : cs.length = vlen v * sz := by
  rcases H with ⟨rfl, rfl⟩ | ⟨b, n, c, r, rfl, h1, h2, h3, h4, h5⟩
  · simp [vlen]
  · exact h2
theorem Row.fresh {h0 h : H} {e : TypeId} {sz : Nat} {v : Value} {cs : List Value} (H : Row h0 h e sz v cs) {a : Addr} (ha : vbase v = some a) : h0 a.block = none := by
  rcases H with ⟨rfl, rfl⟩ | ⟨b, n, c, r, rfl, h1, h2, h3, h4, h5⟩
  · cases ha
  · cases ha; exact h5
theorem Row.new {h0 h : H} {e : TypeId} {sz b n c : Nat} {cs r : List Value} (hb : h0 b = none) (hn : cs.length = n * sz) (hc : r.length = (c - n) * sz) (hnc : n ≤ c) :
    Row h0 (h.put b (.cells (cs ++ r).toArray e (0, 0))) e sz (.slice (some ⟨b, 0, none⟩) n c) cs :=
  .inr ⟨b, n, c, r, rfl, H.put_same, hn, hc, hnc, hb⟩
theorem Row.reads {h0 h : H} {e : TypeId} {sz : Nat} {v : Value} {cs : List Value} (H : Row h0 h e sz v cs) {o : Nat} {xs : List Value} (hx : ∀ i u, xs[i]? = some u → cs[o + i]? = some u) : Reads h ((vaddr v).add o) xs := by
  intro i u hi
  have h1 := hx i u hi
  rcases H with ⟨rfl, rfl⟩ | ⟨b, n, c, r, rfl, h2, h3, h4, h5, h6⟩
  · simp at h1
  · rw [vaddr_sl, add_lit, add_lit]
    have hlt := (List.getElem?_eq_some_iff.1 h1).1
    simp only [H.cell?, h2]
    simp [List.getElem?_append_left hlt, h1]
theorem Row.writable {h0 h : H} {e : TypeId} {sz : Nat} {v : Value} {cs : List Value} (H : Row h0 h e sz v cs) {o k : Nat} (ho : o + k ≤ vcap v * sz) : Writable h ((vaddr v).add o) k := by
  intro i hi
  rcases H with ⟨rfl, rfl⟩ | ⟨b, n, c, r, rfl, h2, h3, h4, h5, h6⟩
  · simp [vcap] at ho; omega
  · rw [vaddr_sl, add_lit, add_lit]
    simp only [vcap_sl] at ho
    have hl : (cs ++ r).length = c * sz := by
      rw [List.length_append, h3, h4, ← Nat.add_mul]; congr 1; omega
    have : 0 + o + i < (cs ++ r).length := by omega
    simp only [H.cell?, H.frozen?, h2]
    simp [List.getElem?_eq_getElem this]
    rw [List.length_append] at this; omega
theorem Row.le {h0 h h' : H} (hl : h.le h') {e : TypeId} {sz : Nat} {v : Value} {cs : List Value} (H : Row h0 h e sz v cs) : Row h0 h' e sz v cs := by
  rcases H with ⟨rfl, rfl⟩ | ⟨b, n, c, r, rfl, h1, h2⟩
  · exact .inl ⟨rfl, rfl⟩
  · exact .inr ⟨b, n, c, r, rfl, hl _ _ h1, h2⟩
/-- Cells set one behind the other, in one block. -/
theorem sets_block {b : Nat} {e : TypeId} {f : Nat × Nat} : ∀ (N : List Value) (h : H) (o : Nat) (pre mid post : List Value), pre.length = o → mid.length = N.length → h b = some (.cells (pre ++ mid ++ post).toArray e f) →
    (h.sets (⟨b, o, none⟩ : Addr) N) b = some (.cells (pre ++ N ++ post).toArray e f) ∧ ∀ x, x ≠ b → (h.sets (⟨b, o, none⟩ : Addr) N) x = h x
  | [], h, o, pre, mid, post, h1, h2, h3 => by
    have : mid = [] := List.eq_nil_of_length_eq_zero (by simpa using h2)
    subst this
    exact ⟨h3, fun _ _ => rfl⟩
  | v :: N, h, o, pre, [], post, h1, h2, h3 => by simp at h2
  | v :: N, h, o, pre, m :: mid, post, h1, h2, h3 => by
    simp only [H.sets]
    have hs : (h.set (⟨b, o, none⟩ : Addr) v) b = some (.cells ((pre ++ [v]) ++ mid ++ post).toArray e f) := by
      simp only [H.set, if_pos, h3]
      congr 2
      simp only [Option.isSome_none, Bool.false_eq_true, if_false, List.setIfInBounds_toArray]
      congr 1
      rw [List.append_assoc, List.set_append_right _ _ (by omega), h1, Nat.sub_self]
      simp
    have ih := sets_block N (h.set (⟨b, o, none⟩ : Addr) v) (o + 1) (pre ++ [v]) mid post (by simp [h1]) (by simpa using h2) hs
    rw [show (⟨b, o, none⟩ : Addr).add 1 = ⟨b, o + 1, none⟩ from add_lit b o 1]
    refine ⟨by simpa using ih.1, fun x hx => ?_⟩
    rw [ih.2 x hx]
    simp [H.set, hx]
/-- What an append makes of a row of one's own. -/
theorem app_row {h0 h : H} {e : TypeId} {sz bytes m : Nat} {v : Value} {z cs N : List Value} {K : Value → H → Prop} (H : Row h0 h e sz v cs) (hle : h0.le h) (hN : N.length = m * sz) (hz : z.length = sz)
    (hb : (vlen v + m) * bytes ≤ 140737488355328)
    (HK : ∀ v' h', Row h0 h' e sz v' (cs ++ N) → vlen v' = vlen v + m → h0.le h' → h.leX (vbase v) h' → (vbase v' = vbase v ∨ ∀ a, vbase v' = some a → h a.block = none) → K v' h') : AppSpec h e sz bytes z v N m K := by
  have hrep : ∀ k, (repZ z k).length = k * sz := fun k => by simp [repZ, hz]
  rcases H with ⟨rfl, rfl⟩ | ⟨b, n, c, r, rfl, h1, h2, h3, h4, h5⟩
  · refine ⟨fun hc => ?_, fun hc => ⟨growslice_fits hc hb, [], by simp, (fun _ e => by cases e), fun b nc hn hnc => ?_⟩⟩
    · have hm : m = 0 := by omega
      subst hm
      have : N = [] := List.eq_nil_of_length_eq_zero (by simpa using hN)
      subst this
      exact ⟨fun i hi => absurd hi (Nat.not_lt_zero _), HK _ _ (.inl ⟨rfl, rfl⟩) rfl hle (fun _ _ _ e => e) (.inl rfl)⟩
    · have h00 := H.le_none hle hn
      refine HK _ _ (Row.new h00 ?_ (hrep _) hnc) rfl (hle.trans (H.le_put hn)) (fun x o _ e => H.le_put hn x o e) (.inr fun a ha => by cases ha; exact hn)
      rw [Nat.zero_add]; simpa using hN
  · refine ⟨fun hc => ⟨?_, ?_⟩, fun hc => ⟨growslice_fits hc hb, cs, h2, fun ad e => ?_, fun b' nc hn hnc => ?_⟩⟩
    · have := Row.writable (h0 := h0) (e := e) (sz := sz) (cs := cs) (o := n * sz) (k := N.length) (.inr ⟨b, n, c, r, rfl, h1, h2, h3, h4, h5⟩) (by rw [hN, ← Nat.add_mul]; exact Nat.mul_le_mul_right _ hc)
      exact this
    · have hr : r = r.take N.length ++ r.drop N.length := (List.take_append_drop ..).symm
      have hlr : N.length ≤ r.length := by rw [hN, h3]; exact Nat.mul_le_mul_right _ (by omega)
      obtain ⟨s1, s2⟩ := sets_block (b := b) (e := e) (f := (0, 0)) N h (n * sz) cs (r.take N.length) (r.drop N.length) h2 (by rw [List.length_take]; omega) (by rw [List.append_assoc, ← hr]; exact h1)
      have ea : ((some (⟨b, 0, none⟩ : Addr)).getD default).add (n * sz) = ⟨b, n * sz, none⟩ := by rw [Option.getD_some, add_lit, Nat.zero_add]
      rw [ea]
      refine HK _ _ (.inr ⟨b, n + m, c, r.drop N.length, rfl, s1, ?_, ?_, hc, h5⟩) rfl (fun x o e => ?_) (fun x o hx e => ?_) (.inl rfl)
      · rw [List.length_append, h2, hN, Nat.add_mul]
      · rw [List.length_drop, h3, hN, ← Nat.sub_mul]; congr 1; omega
      · have : x ≠ b := fun e' => by rw [e', h5] at e; cases e
        rw [s2 x this]; exact hle _ _ e
      · rw [s2 x (hx _ rfl)]; exact e
    · cases e
      have := Row.reads (h0 := h0) (e := e) (sz := sz) (cs := cs) (o := 0) (xs := cs) (.inr ⟨b, n, c, r, rfl, h1, h2, h3, h4, h5⟩) (fun i u hi => by simpa using hi)
      exact this
    · have h00 := H.le_none hle hn
      refine HK _ _ (Row.new h00 ?_ (hrep _) hnc) rfl (hle.trans (H.le_put hn)) (fun x o _ e => H.le_put hn x o e) (.inr fun a ha => by cases ha; exact hn)
      rw [List.length_append, h2, hN, Nat.add_mul]
/-- What a store makes of a row of one's own. -/
theorem set_row {h0 h : H} {e : TypeId} {sz o : Nat} {v : Value} {cs N : List Value} (H : Row h0 h e sz v cs) (hle : h0.le h) (ho : o + N.length ≤ cs.length) :
    Row h0 (h.sets ((vaddr v).add o) N) e sz v (cs.take o ++ N ++ cs.drop (o + N.length)) ∧ h0.le (h.sets ((vaddr v).add o) N) ∧ h.leX (vbase v) (h.sets ((vaddr v).add o) N) := by
  rcases H with ⟨rfl, rfl⟩ | ⟨b, n, c, r, rfl, h1, h2, h3, h4, h5⟩
  · have hN : N = [] := List.eq_nil_of_length_eq_zero (by rw [List.length_nil] at ho; omega)
    subst hN
    exact ⟨.inl ⟨rfl, by simp⟩, hle, fun _ _ _ e => e⟩
  · have ec : cs = cs.take o ++ (cs.drop o).take N.length ++ cs.drop (o + N.length) := by
      rw [← List.drop_drop, List.append_assoc, List.take_append_drop, List.take_append_drop]
    obtain ⟨s1, s2⟩ := sets_block (b := b) (e := e) (f := (0, 0)) N h o (cs.take o) ((cs.drop o).take N.length) (cs.drop (o + N.length) ++ r) (by rw [List.length_take]; omega) (by rw [List.length_take, List.length_drop]; omega)
      (by rw [← List.append_assoc, ← ec]; exact h1)
    have ea : (vaddr (.slice (some ⟨b, 0, none⟩) n c)).add o = ⟨b, o, none⟩ := by rw [vaddr_sl, add_lit, Nat.zero_add]
    rw [ea]
    refine ⟨.inr ⟨b, n, c, r, rfl, by rw [List.append_assoc (cs.take o ++ N)]; exact s1, ?_, h3, h4, h5⟩, fun x o' e => ?_, fun x o' hx e => ?_⟩
    · rw [← h2]
      simp only [List.length_append, List.length_take, List.length_drop]; omega
    · have : x ≠ b := fun e' => by rw [e', h5] at e; cases e
      rw [s2 x this]; exact hle _ _ e
    · rw [s2 x (hx _ rfl)]; exact e
/-- A row of numbers. -/
abbrev OwnInts (h0 h : H) (v : Value) (l : List Int) : Prop := Row h0 h 3 1 v (l.map (.int .i64))
theorem OwnInts.ints {h0 h : H} {v : Value} {l : List Int} (H : OwnInts h0 h v l) : IntsAt h v l := by
  refine ⟨H.fit, by have := Row.len H; simp at this; exact this.symm, fun i x hi => ⟨_, rfl, Row.reads H fun j u hj => ?_⟩⟩
  cases j with
  | zero => simp at hj; subst hj; simp [hi]
  | succ j => simp at hj
theorem own_new {h0 h : H} {b : Nat} {l : List Int} (hb : h0 b = none) : OwnInts h0 (h.put b (.cells (l.map (Value.int .i64)).toArray 3 (0, 0))) (.slice (some ⟨b, 0, none⟩) l.length l.length) l := by
  have := Row.new (h0 := h0) (h := h) (e := 3) (sz := 1) (b := b) (n := l.length) (c := l.length) (cs := l.map (Value.int .i64)) (r := []) hb (by simp) (by simp) (Nat.le_refl _)
  rw [List.append_nil] at this; exact this

/-! ### Slices of slices -/
theorem SlAt.slice {α : Type} {sz : Nat} {Rep : H → List Value → α → Prop} {h : H} {v : Value} {l : List α} (H : SlAt sz Rep h v l) {lo hi : Nat} (h1 : lo ≤ hi) (h2 : hi ≤ l.length) :
    SlAt sz Rep h (sliceV v lo hi sz) ((l.drop lo).take (hi - lo)) := by
  have hl := H.len
  have hg := H.get
  obtain ⟨a, n, c, rfl, h3, h4⟩ := H.fit
  have hl' : n = l.length := hl
  refine ⟨⟨if c = lo then a else a.map (·.add (lo * sz)), hi - lo, c - lo, rfl, fun e => ?_, by omega⟩, ?_, fun i x hi' => ?_⟩
  · have : a = none := by
      split at e
      · exact e
      · simpa using e
    obtain ⟨q1, q2⟩ := h3 this
    omega
  · simp only [sliceV, vlen_sl, List.length_take, List.length_drop]; omega
  · rw [List.getElem?_take] at hi'
    split at hi'
    · rename_i hlt
      rw [List.getElem?_drop] at hi'
      obtain ⟨cs, k1, k2⟩ := hg _ x hi'
      refine ⟨cs, k1, ?_⟩
      have hlt2 := (List.getElem?_eq_some_iff.1 hi').1
      have hne : c ≠ lo := by omega
      simp only [sliceV, if_neg hne]
      cases a with
      | none => have := (h3 rfl).1; omega
      | some ad =>
        simp only [Option.map_some, vaddr_sl] at k2 ⊢
        rw [add_add, ← Nat.add_mul]; exact k2
    · cases hi'

/-! ### Bytes -/
def ByteC (_ : H) (cs : List Value) (n : Int) : Prop := cs = [.int .u8 n] ∧ 0 ≤ n ∧ n ≤ 255
theorem byteC_mono : Mono ByteC := fun _ _ _ _ _ h => h
abbrev BytesAt := SlAt 1 ByteC
theorem BytesAt.le {h h' : H} (hl : h.le h') {v : Value} {l : List Int} (H : BytesAt h v l) : BytesAt h' v l := SlAt.le byteC_mono hl H
theorem BytesAt.read {h : H} {v : Value} {l : List Int} (H : BytesAt h v l) {i : Nat} {x : Int} (hi : l[i]? = some x) : Reads h ((vaddr v).add (i * 1)) [.int .u8 x] ∧ 0 ≤ x ∧ x ≤ 255 := by
  obtain ⟨cs, ⟨rfl, h1⟩, h2⟩ := H.get i x hi; exact ⟨h2, h1⟩

/-! ### A call with one chunk -/
def RetC (Q : Value → List Value → H → Prop) (v : Value) (cs : List (List Value)) (h : H) : Prop := ∃ c, cs = [c] ∧ Q v c h
theorem h_call1 {P : Program} {R : Value → List (List Value) → H → Prop} {G : List Value} {L : Lv} {h : H} {f : FuncId} {args cl : List SV} {ks : List Nat} {sh : List Sh} {rs : List (Bool × List Sh)} {k : Out} {Q : Value → List Value → H → Prop}
    (hc : CallsA P f (fun e => SV.denL G (fun j => e (kIdx ks j)) args) [SV.denL G dE cl] h (RetC Q))
    (hk : ∀ v c h', Q v c h' → FitsL sh c ∧ ∃ xs, FitsL (rshs rs) xs ∧ v = rval rs xs ∧ holds P R k (G ++ (c ++ xs)) L h') : holds P R (.call f args ks [cl] [sh] rs k) G L h :=
  CallsA.mono hc fun v cs' h' ⟨c, he, hq⟩ => by
    obtain ⟨h0, xs, h1, h2, h3⟩ := hk v c h' hq
    subst he
    exact ⟨xs, h1, h2, ⟨h0, trivial⟩, by simpa using h3⟩
end Go.Proofs.YtbgfabppmobpgaaDoor

/-
  Rows of one's own that hold parts with rows of their own: each block named, no block twice. Conditions: none (definitions and plain lemmas).
-/
set_option linter.unusedVariables false
set_option linter.unusedSimpArgs false
namespace Go.Proofs.YtbgfabppmobpgaaDoor
open Go

/-- An own row, with the block that it lies in. -/
def RowF (h : H) (e : TypeId) (sz : Nat) (v : Value) (cs : List Value) (fp : List Nat) : Prop :=
  (v = .slice none 0 0 ∧ cs = [] ∧ fp = []) ∨
  ∃ b n c r, v = .slice (some ⟨b, 0, none⟩) n c ∧ h b = some (.cells (cs ++ r).toArray e (0, 0)) ∧ cs.length = n * sz ∧ r.length = (c - n) * sz ∧ n ≤ c ∧ fp = [b]
def Agree (h h' : H) (fp : List Nat) : Prop := ∀ b ∈ fp, h' b = h b
def Live (h : H) (fp : List Nat) : Prop := ∀ b ∈ fp, (h b).isSome = true
def Fresh (h0 : H) (fp : List Nat) : Prop := ∀ b ∈ fp, h0 b = none
theorem Agree.left {h h' : H} {f g : List Nat} (H : Agree h h' (f ++ g)) : Agree h h' f := fun b hb => H b (List.mem_append_left _ hb)
theorem Agree.right {h h' : H} {f g : List Nat} (H : Agree h h' (f ++ g)) : Agree h h' g := fun b hb => H b (List.mem_append_right _ hb)
theorem RowF.agree {h h' : H} {e : TypeId} {sz : Nat} {v : Value} {cs : List Value} {fp : List Nat} (ha : Agree h h' fp) (H : RowF h e sz v cs fp) : RowF h' e sz v cs fp := by
  rcases H with ⟨rfl, rfl, rfl⟩ | ⟨b, n, c, r, rfl, h1, h2, h3, h4, rfl⟩
  · exact .inl ⟨rfl, rfl, rfl⟩
  · exact .inr ⟨b, n, c, r, rfl, by rw [ha b (List.mem_singleton.2 rfl)]; exact h1, h2, h3, h4, rfl⟩
theorem RowF.live {h : H} {e : TypeId} {sz : Nat} {v : Value} {cs : List Value} {fp : List Nat} (H : RowF h e sz v cs fp) : Live h fp := by
  rcases H with ⟨rfl, rfl, rfl⟩ | ⟨b, n, c, r, rfl, h1, h2, h3, h4, rfl⟩
  · intro b hb; cases hb
  · intro b' hb; rw [List.mem_singleton] at hb; subst hb; rw [h1]; rfl
theorem RowF.row {h0 h : H} {e : TypeId} {sz : Nat} {v : Value} {cs : List Value} {fp : List Nat} (H : RowF h e sz v cs fp) (hf : Fresh h0 fp) : Row h0 h e sz v cs := by
  rcases H with ⟨rfl, rfl, rfl⟩ | ⟨b, n, c, r, rfl, h1, h2, h3, h4, rfl⟩
  · exact .inl ⟨rfl, rfl⟩
  · exact .inr ⟨b, n, c, r, rfl, h1, h2, h3, h4, hf b (List.mem_singleton.2 rfl)⟩
theorem RowF.row0 {h : H} {e : TypeId} {sz : Nat} {v : Value} {cs : List Value} {fp : List Nat} (H : RowF h e sz v cs fp) : Row (fun _ => none) h e sz v cs := H.row fun _ _ => rfl
theorem RowF.new {h : H} {e : TypeId} {sz b n c : Nat} {cs r : List Value} (hn : cs.length = n * sz) (hc : r.length = (c - n) * sz) (hnc : n ≤ c) :
    RowF (h.put b (.cells (cs ++ r).toArray e (0, 0))) e sz (.slice (some ⟨b, 0, none⟩) n c) cs [b] :=
  .inr ⟨b, n, c, r, rfl, H.put_same, hn, hc, hnc, rfl⟩
/-- All that was there, but for these blocks, is as it was. -/
def KeptH (h h' : H) (fp : List Nat) : Prop := ∀ b, b ∉ fp → (h b).isSome = true → h' b = h b
theorem KeptH.refl (h : H) (fp : List Nat) : KeptH h h fp := fun _ _ _ => rfl
theorem KeptH.agree {h h' : H} {fp g : List Nat} (H : KeptH h h' fp) (hl : Live h g) (hd : ∀ b ∈ g, b ∉ fp) : Agree h h' g := fun b hb => H b (hd b hb) (hl b hb)
theorem KeptH.le {h0 h h' : H} {fp : List Nat} (H : KeptH h h' fp) (hle : h0.le h) (hf : Fresh h0 fp) : h0.le h' := fun b o e => by
  have h1 := hle b o e
  rw [H b (fun hb => by rw [hf b hb] at e; cases e) (by rw [h1]; rfl)]; exact h1
theorem KeptH.put {h : H} {b : Nat} {o : Obj} (hb : h b = none) (fp : List Nat) : KeptH h (h.put b o) fp := fun x _ hx => by
  rw [H.put_other]; intro e; rw [e, hb] at hx; cases hx
theorem KeptH.mono {h h' : H} {f g : List Nat} (H : KeptH h h' f) (hs : ∀ b ∈ f, b ∈ g) : KeptH h h' g := fun b hb hx => H b (fun hf => hb (hs b hf)) hx
theorem KeptH.trans {h h' h'' : H} {f : List Nat} (H : KeptH h h' f) (H' : KeptH h' h'' f) : KeptH h h'' f := fun b hb hx => by
  have e := H b hb hx
  rw [H' b hb (by rw [e]; exact hx), e]
theorem KeptH.live {h h' : H} {f g : List Nat} (H : KeptH h h' f) (hl : Live h g) (hd : ∀ b ∈ g, b ∉ f) : Live h' g := fun b hb => by rw [H b (hd b hb) (hl b hb)]; exact hl b hb
/-- What an append makes of an own row. -/
theorem app_rowF {h : H} {e : TypeId} {sz bytes m : Nat} {v : Value} {z cs N : List Value} {fp : List Nat} {K : Value → H → Prop} (H : RowF h e sz v cs fp) (hN : N.length = m * sz) (hz : z.length = sz)
    (hb : (vlen v + m) * bytes ≤ 140737488355328)
    (HK : ∀ v' h' fp', RowF h' e sz v' (cs ++ N) fp' → vlen v' = vlen v + m → KeptH h h' fp → (fp' = fp ∨ ∃ b, fp' = [b] ∧ h b = none) → K v' h') : AppSpec h e sz bytes z v N m K := by
  have hrep : ∀ k, (repZ z k).length = k * sz := fun k => by simp [repZ, hz]
  rcases H with ⟨rfl, rfl, rfl⟩ | ⟨b, n, c, r, rfl, h1, h2, h3, h4, rfl⟩
  · refine ⟨fun hc => ?_, fun hc => ⟨growslice_fits hc hb, [], by simp, (fun _ e => by cases e), fun b nc hn hnc => ?_⟩⟩
    · have hm : m = 0 := by omega
      subst hm
      have : N = [] := List.eq_nil_of_length_eq_zero (by simpa using hN)
      subst this
      exact ⟨fun i hi => absurd hi (Nat.not_lt_zero _), HK _ _ [] (.inl ⟨rfl, rfl, rfl⟩) rfl (KeptH.refl _ _) (.inl rfl)⟩
    · refine HK _ _ [b] (RowF.new ?_ (hrep _) hnc) rfl (KeptH.put hn _) (.inr ⟨b, rfl, hn⟩)
      rw [Nat.zero_add]; simpa using hN
  · refine ⟨fun hc => ⟨?_, ?_⟩, fun hc => ⟨growslice_fits hc hb, cs, h2, fun ad e => ?_, fun b' nc hn hnc => ?_⟩⟩
    · have := Row.writable (h0 := fun _ => none) (e := e) (sz := sz) (cs := cs) (o := n * sz) (k := N.length) (.inr ⟨b, n, c, r, rfl, h1, h2, h3, h4, rfl⟩) (by rw [hN, ← Nat.add_mul]; exact Nat.mul_le_mul_right _ hc)
      exact this
    · have hr : r = r.take N.length ++ r.drop N.length := (List.take_append_drop ..).symm
      have hlr : N.length ≤ r.length := by rw [hN, h3]; exact Nat.mul_le_mul_right _ (by omega)
      obtain ⟨s1, s2⟩ := sets_block (b := b) (e := e) (f := (0, 0)) N h (n * sz) cs (r.take N.length) (r.drop N.length) h2 (by rw [List.length_take]; omega) (by rw [List.append_assoc, ← hr]; exact h1)
      have ea : ((some (⟨b, 0, none⟩ : Addr)).getD default).add (n * sz) = ⟨b, n * sz, none⟩ := by rw [Option.getD_some, add_lit, Nat.zero_add]
      rw [ea]
      refine HK _ _ [b] (.inr ⟨b, n + m, c, r.drop N.length, rfl, s1, ?_, ?_, hc, rfl⟩) rfl (fun x hx _ => s2 x fun e => hx (by rw [e]; exact List.mem_singleton.2 rfl)) (.inl rfl)
      · rw [List.length_append, h2, hN, Nat.add_mul]
      · rw [List.length_drop, h3, hN, ← Nat.sub_mul]; congr 1; omega
    · cases e
      have := Row.reads (h0 := fun _ => none) (e := e) (sz := sz) (cs := cs) (o := 0) (xs := cs) (.inr ⟨b, n, c, r, rfl, h1, h2, h3, h4, rfl⟩) (fun i u hi => by simpa using hi)
      exact this
    · refine HK _ _ [b'] (RowF.new ?_ (hrep _) hnc) rfl (KeptH.put hn _) (.inr ⟨b', rfl, hn⟩)
      rw [List.length_append, h2, hN, Nat.add_mul]
/-- What a store makes of an own row. -/
theorem set_rowF {h : H} {e : TypeId} {sz : Nat} {v : Value} {A B C N : List Value} {fp : List Nat} (H : RowF h e sz v (A ++ B ++ C) fp) (hN : N.length = B.length) (hne : B ≠ []) :
    RowF (h.sets ((vaddr v).add A.length) N) e sz v (A ++ N ++ C) fp ∧ (∀ b, b ∉ fp → (h.sets ((vaddr v).add A.length) N) b = h b) := by
  rcases H with ⟨rfl, h2, rfl⟩ | ⟨b, n, c, r, rfl, h1, h2, h3, h4, rfl⟩
  · simp only [List.append_eq_nil_iff] at h2
    exact absurd h2.1.2 hne
  · obtain ⟨s1, s2⟩ := sets_block (b := b) (e := e) (f := (0, 0)) N h A.length A B (C ++ r) rfl hN.symm (by rw [← List.append_assoc]; exact h1)
    have ea : (vaddr (.slice (some ⟨b, 0, none⟩) n c)).add A.length = ⟨b, A.length, none⟩ := by rw [vaddr_sl, add_lit, Nat.zero_add]
    rw [ea]
    refine ⟨.inr ⟨b, n, c, r, rfl, by rw [List.append_assoc (A ++ N)]; exact s1, ?_, h3, h4, rfl⟩, fun x hx => s2 x fun e => hx (by rw [e]; exact List.mem_singleton.2 rfl)⟩
    rw [← h2]; simp only [List.length_append]; omega

/-! ### Parts with rows of their own -/
structure El (α : Type) where
  cs : List Value
  x : α
  fp : List Nat
abbrev RepF (α : Type) := H → List Value → α → List Nat → Prop
/-- A rule for parts that looks at its own blocks alone. -/
structure GoodF {α : Type} (R : RepF α) : Prop where
  agree : ∀ {h h' : H} {cs : List Value} {x : α} {fp : List Nat}, Agree h h' fp → R h cs x fp → R h' cs x fp
  live : ∀ {h : H} {cs : List Value} {x : α} {fp : List Nat}, R h cs x fp → Live h fp
def cellsE {α : Type} (L : List (El α)) : List Value := L.flatMap El.cs
def fpE {α : Type} (L : List (El α)) : List Nat := L.flatMap El.fp
def EltsF {α : Type} (sz : Nat) (R : RepF α) (h : H) (L : List (El α)) : Prop := ∀ t ∈ L, t.cs.length = sz ∧ R h t.cs t.x t.fp
def SlF {α : Type} (e : TypeId) (sz : Nat) (R : RepF α) (h : H) (v : Value) (l : List α) (fp : List Nat) : Prop :=
  ∃ (L : List (El α)) (fr : List Nat), l = L.map El.x ∧ fp = fr ++ fpE L ∧ RowF h e sz v (cellsE L) fr ∧ EltsF sz R h L
section
variable {α : Type} {e : TypeId} {sz : Nat} {R : RepF α} {h h' : H} {v : Value} {l : List α} {fp : List Nat}
theorem EltsF.agree (hR : GoodF R) {L : List (El α)} (ha : Agree h h' (fpE L)) (H : EltsF sz R h L) : EltsF sz R h' L := fun t ht =>
  ⟨(H t ht).1, hR.agree (fun b hb => ha b (List.mem_flatMap.2 ⟨t, ht, hb⟩)) (H t ht).2⟩
theorem EltsF.live (hR : GoodF R) {L : List (El α)} (H : EltsF sz R h L) : Live h (fpE L) := fun b hb => by
  obtain ⟨t, ht, hb⟩ := List.mem_flatMap.1 hb
  exact hR.live (H t ht).2 b hb
theorem SlF.good (hR : GoodF R) : GoodF fun h (cs : List Value) (l : List α) fp => ∃ v, cs = [v] ∧ SlF e sz R h v l fp :=
  ⟨fun ha ⟨v, h1, L, fr, h2, h3, h4, h5⟩ => by subst h3; exact ⟨v, h1, L, fr, h2, rfl, h4.agree ha.left, h5.agree hR ha.right⟩,
   fun ⟨v, h1, L, fr, h2, h3, h4, h5⟩ b hb => by
    subst h3
    rcases List.mem_append.1 hb with hb | hb
    · exact h4.live b hb
    · exact h5.live hR b hb⟩
theorem SlF.agree (hR : GoodF R) (ha : Agree h h' fp) (H : SlF e sz R h v l fp) : SlF e sz R h' v l fp := by
  obtain ⟨L, fr, h2, rfl, h4, h5⟩ := H
  exact ⟨L, fr, h2, rfl, h4.agree ha.left, h5.agree hR ha.right⟩
theorem SlF.live (hR : GoodF R) (H : SlF e sz R h v l fp) : Live h fp := by
  obtain ⟨L, fr, h2, rfl, h4, h5⟩ := H
  intro b hb
  rcases List.mem_append.1 hb with hb | hb
  · exact h4.live b hb
  · exact h5.live hR b hb
theorem SlF.nil : SlF e sz R h (.slice none 0 0) ([] : List α) [] := ⟨[], [], rfl, rfl, .inl ⟨rfl, rfl, rfl⟩, fun t ht => by cases ht⟩
theorem cellsE_length {L : List (El α)} (H : EltsF sz R h L) : (cellsE L).length = L.length * sz := by
  induction L with
  | nil => simp [cellsE]
  | cons t L ih =>
    have h1 := (H t (List.mem_cons_self ..)).1
    have h2 := ih fun t ht => H t (List.mem_cons_of_mem _ ht)
    simp only [cellsE, List.flatMap_cons, List.length_append, List.length_cons] at h2 ⊢
    rw [h1, h2, Nat.add_mul, Nat.one_mul, Nat.add_comm]
theorem SlF.len (hs : 0 < sz) (H : SlF e sz R h v l fp) : vlen v = l.length := by
  obtain ⟨L, fr, rfl, rfl, h4, h5⟩ := H
  have h1 := h4.row0.len
  rw [cellsE_length h5] at h1
  rw [List.length_map]
  exact (Nat.eq_of_mul_eq_mul_right hs h1).symm
theorem split_at : ∀ {L : List (El α)} {i : Nat} {x : α}, (L.map El.x)[i]? = some x → ∃ L1 t L2, L = L1 ++ t :: L2 ∧ L1.length = i ∧ t.x = x
  | [], i, x, hi => by simp at hi
  | t :: L, 0, x, hi => ⟨[], t, L, rfl, rfl, by simpa using hi⟩
  | t :: L, i + 1, x, hi => by
    obtain ⟨L1, t', L2, h1, h2, h3⟩ := split_at (L := L) (i := i) (x := x) (by simpa using hi)
    exact ⟨t :: L1, t', L2, by rw [h1]; rfl, by simp [h2], h3⟩
theorem cellsE_append (L M : List (El α)) : cellsE (L ++ M) = cellsE L ++ cellsE M := by simp [cellsE]
theorem cellsE_cons (t : El α) (M : List (El α)) : cellsE (t :: M) = t.cs ++ cellsE M := by simp [cellsE]
theorem fpE_append (L M : List (El α)) : fpE (L ++ M) = fpE L ++ fpE M := by simp [fpE]
theorem fpE_cons (t : El α) (M : List (El α)) : fpE (t :: M) = t.fp ++ fpE M := by simp [fpE]
/-- What an own row says, read. -/
theorem SlF.at (hs : 0 < sz) {Rep : H → List Value → α → Prop} (hRep : ∀ {h : H} {cs : List Value} {x : α} {fp : List Nat}, R h cs x fp → Rep h cs x) (H : SlF e sz R h v l fp) : SlAt sz Rep h v l := by
  have hlen := H.len hs
  obtain ⟨L, fr, rfl, rfl, h4, h5⟩ := H
  refine ⟨h4.row0.fit, hlen, fun i x hi => ?_⟩
  obtain ⟨L1, t, L2, rfl, h1, rfl⟩ := split_at hi
  refine ⟨t.cs, hRep (h5 t (by simp)).2, h4.row0.reads fun j u hj => ?_⟩
  have hl1 : (cellsE L1).length = i * sz := by rw [← h1]; exact cellsE_length fun t ht => h5 t (by simp [ht])
  rw [cellsE_append, cellsE_cons, List.getElem?_append_right (by omega), hl1, Nat.add_sub_cancel_left, List.getElem?_append_left (List.getElem?_eq_some_iff.1 hj).1]
  exact hj
/-- One part more. -/
theorem app_slF (hR : GoodF R) {bytes : Nat} {z c : List Value} {x : α} {f : List Nat} {K : Value → H → Prop} (hs : 0 < sz) (H : SlF e sz R h v l fp) (hc : c.length = sz) (hx : R h c x f) (hnd : (fp ++ f).Nodup) (hz : z.length = sz)
    (hb : (l.length + 1) * bytes ≤ 140737488355328)
    (HK : ∀ v' h' fp', SlF e sz R h' v' (l ++ [x]) fp' → fp'.Nodup → KeptH h h' fp → (∀ b ∈ fp', b ∈ fp ∨ b ∈ f ∨ h b = none) → K v' h') : AppSpec h e sz bytes z v c 1 K := by
  have hlen := H.len hs
  obtain ⟨L, fr, rfl, rfl, h4, h5⟩ := H
  have hlive := h5.live hR
  have hlf := hR.live hx
  refine app_rowF h4 (by rw [hc, Nat.one_mul]) hz (by rw [hlen]; exact hb) fun v' h' fr' k1 k2 k3 k4 => ?_
  rw [List.append_assoc, List.nodup_append] at hnd
  obtain ⟨n1, n2, n3⟩ := hnd
  have hd : ∀ b ∈ fpE L ++ f, b ∉ fr := fun b hb hf => n3 b hf b hb rfl
  have ha : Agree h h' (fpE L ++ f) := k3.agree (fun b hb => (List.mem_append.1 hb).elim (hlive b) (hlf b)) hd
  have hcell : cellsE (L ++ [⟨c, x, f⟩]) = cellsE L ++ c := by simp [cellsE]
  have hfp : fpE (L ++ [⟨c, x, f⟩]) = fpE L ++ f := by simp [fpE]
  refine HK v' h' (fr' ++ (fpE L ++ f)) ⟨L ++ [⟨c, x, f⟩], fr', by simp, by rw [hfp], by rw [hcell]; exact k1, fun t ht => ?_⟩ ?_ (k3.mono fun b hb => List.mem_append_left _ hb) ?_
  · rcases List.mem_append.1 ht with ht | ht
    · exact (h5.agree hR ha.left) t ht
    · rw [List.mem_singleton] at ht; subst ht
      exact ⟨hc, hR.agree ha.right hx⟩
  · rw [List.nodup_append]
    rcases k4 with rfl | ⟨b, rfl, hb⟩
    · exact ⟨n1, n2, n3⟩
    · refine ⟨by simp, n2, fun x hx y hy e => ?_⟩
      rw [List.mem_singleton] at hx
      subst hx; subst e
      have : (h x).isSome = true := (List.mem_append.1 hy).elim (hlive x) (hlf x)
      rw [hb] at this; cases this
  · intro b hb
    rcases List.mem_append.1 hb with hb | hb
    · rcases k4 with rfl | ⟨b', rfl, hb'⟩
      · exact .inl (List.mem_append_left _ hb)
      · rw [List.mem_singleton] at hb; subst hb; exact .inr (.inr hb')
    · rcases List.mem_append.1 hb with hb | hb
      · exact .inl (List.mem_append_right _ hb)
      · exact .inr (.inl hb)
end
end Go.Proofs.YtbgfabppmobpgaaDoor

/-
  One part of an own row, changed in place. Conditions: none (definitions and plain lemmas).
-/
set_option linter.unusedVariables false
set_option linter.unusedSimpArgs false
namespace Go.Proofs.YtbgfabppmobpgaaDoor
open Go

/-- An own row, seen at one part. -/
structure Lens {α : Type} (e : TypeId) (sz : Nat) (R : RepF α) (h : H) (v : Value) (l : List α) (fp : List Nat) (i : Nat) (x : α) (c : List Value) (f : List Nat) (L1 L2 : List (El α)) (fr : List Nat) : Prop where
  list : l = L1.map El.x ++ x :: L2.map El.x
  foot : fp = fr ++ (fpE L1 ++ (f ++ fpE L2))
  at_ : L1.length = i
  row : RowF h e sz v (cellsE L1 ++ c ++ cellsE L2) fr
  len : c.length = sz
  rep : R h c x f
  e1 : EltsF sz R h L1
  e2 : EltsF sz R h L2
section
variable {α : Type} {e : TypeId} {sz : Nat} {R : RepF α} {h : H} {v : Value} {l : List α} {fp : List Nat} {i : Nat} {x : α} {c : List Value} {f : List Nat} {L1 L2 : List (El α)} {fr : List Nat}
theorem SlF.lens (k : SlF e sz R h v l fp) (hi : l[i]? = some x) : ∃ c f L1 L2 fr, Lens e sz R h v l fp i x c f L1 L2 fr := by
  obtain ⟨L, fr, rfl, rfl, h4, h5⟩ := k
  obtain ⟨L1, t, L2, rfl, h1, rfl⟩ := split_at hi
  refine ⟨t.cs, t.fp, L1, L2, fr, by simp, by rw [fpE_append, fpE_cons], h1, ?_, (h5 t (by simp)).1, (h5 t (by simp)).2, fun s hs => h5 s (by simp [hs]), fun s hs => h5 s (by simp [hs])⟩
  rw [cellsE_append, cellsE_cons] at h4
  rw [List.append_assoc]; exact h4
theorem Lens.pre (K : Lens e sz R h v l fp i x c f L1 L2 fr) : (cellsE L1).length = i * sz := by rw [← K.at_]; exact cellsE_length K.e1
theorem Lens.reads (K : Lens e sz R h v l fp i x c f L1 L2 fr) {o : Nat} {xs : List Value} (hx : ∀ j u, xs[j]? = some u → c[o + j]? = some u) : Reads h ((vaddr v).add (i * sz + o)) xs := by
  refine K.row.row0.reads fun j u hj => ?_
  have h1 := hx j u hj
  have hlt := (List.getElem?_eq_some_iff.1 h1).1
  rw [List.append_assoc, List.getElem?_append_right (by rw [K.pre]; omega), K.pre, show i * sz + o + j - i * sz = o + j by omega, List.getElem?_append_left hlt]
  exact h1
/-- The part's own blocks have changed (into h1): the row holds what it makes of it. -/
theorem Lens.inner (hR : GoodF R) (K : Lens e sz R h v l fp i x c f L1 L2 fr) (hnd : fp.Nodup) {h1 : H} (hk : KeptH h h1 f) {x' : α} {f' : List Nat} (hx : R h1 c x' f') (hf : ∀ b ∈ f', b ∈ f ∨ h b = none) (hn : f'.Nodup) :
    SlF e sz R h1 v (l.set i x') (fr ++ (fpE L1 ++ (f' ++ fpE L2))) ∧ (fr ++ (fpE L1 ++ (f' ++ fpE L2))).Nodup ∧ Lens e sz R h1 v (l.set i x') (fr ++ (fpE L1 ++ (f' ++ fpE L2))) i x' c f' L1 L2 fr := by
  have hnd0 := hnd
  rw [K.foot] at hnd
  obtain ⟨n1, n2, n3⟩ := List.nodup_append.1 hnd
  obtain ⟨n4, n5, n6⟩ := List.nodup_append.1 n2
  obtain ⟨n7, n8, n9⟩ := List.nodup_append.1 n5
  have lr := K.row.live
  have ll1 := K.e1.live hR
  have ll2 := K.e2.live hR
  have ar : Agree h h1 fr := hk.agree lr fun b hb hf => n3 b hb b (by simp [hf]) rfl
  have a1 : Agree h h1 (fpE L1) := hk.agree ll1 fun b hb hf => n6 b hb b (by simp [hf]) rfl
  have a2 : Agree h h1 (fpE L2) := hk.agree ll2 fun b hb hf => n9 b hf b hb rfl
  have dead : ∀ b, (h b).isSome = true → h b ≠ none := fun b hb e => by rw [e] at hb; cases hb
  have hlist : l.set i x' = L1.map El.x ++ x' :: L2.map El.x := by
    rw [K.list, List.set_append_right _ _ (by rw [List.length_map, K.at_]; omega), List.length_map, K.at_, Nat.sub_self]; rfl
  have KL : Lens e sz R h1 v (l.set i x') (fr ++ (fpE L1 ++ (f' ++ fpE L2))) i x' c f' L1 L2 fr :=
    ⟨hlist, rfl, K.at_, K.row.agree ar, K.len, hx, K.e1.agree hR a1, K.e2.agree hR a2⟩
  refine ⟨⟨L1 ++ ⟨c, x', f'⟩ :: L2, fr, by rw [hlist]; simp, by rw [fpE_append, fpE_cons], ?_, fun s hs => ?_⟩, ?_, KL⟩
  · rw [cellsE_append, cellsE_cons, ← List.append_assoc]; exact KL.row
  · rcases List.mem_append.1 hs with q | q
    · exact KL.e1 s q
    · rcases List.mem_cons.1 q with rfl | q
      · exact ⟨K.len, hx⟩
      · exact KL.e2 s q
  · refine List.nodup_append.2 ⟨n1, List.nodup_append.2 ⟨n4, List.nodup_append.2 ⟨hn, n8, fun a ha b hb e => ?_⟩, fun a ha b hb e => ?_⟩, fun a ha b hb e => ?_⟩
    · subst e
      rcases hf a ha with q | q
      · exact n9 a q a hb rfl
      · exact dead a (ll2 a hb) q
    · subst e
      rcases List.mem_append.1 hb with hb | hb
      · rcases hf a hb with q | q
        · exact n6 a ha a (by simp [q]) rfl
        · exact dead a (ll1 a ha) q
      · exact n6 a ha a (by simp [hb]) rfl
    · subst e
      rcases List.mem_append.1 hb with hb | hb
      · exact n3 a ha a (by simp [hb]) rfl
      · rcases List.mem_append.1 hb with hb | hb
        · rcases hf a hb with q | q
          · exact n3 a ha a (by simp [q]) rfl
          · exact dead a (lr a ha) q
        · exact n3 a ha a (by simp [hb]) rfl
theorem Lens.apart (K : Lens e sz R h v l fp i x c f L1 L2 fr) (hnd : fp.Nodup) : ∀ b ∈ f, b ∉ fr := fun b hb hr => by
  rw [K.foot] at hnd
  exact (List.nodup_append.1 hnd).2.2 b hr b (by simp [hb]) rfl
/-- Some cells of the part are set. -/
theorem Lens.store (hR : GoodF R) (K : Lens e sz R h v l fp i x c f L1 L2 fr) (hnd : fp.Nodup) {o : Nat} {N A B C : List Value} (hc : c = A ++ B ++ C) (ho : A.length = o) (hN : N.length = B.length) (hne : B ≠ []) :
    Writable h ((vaddr v).add (i * sz + o)) N.length ∧ (∀ b, b ∉ fr → (h.sets ((vaddr v).add (i * sz + o)) N) b = h b) ∧
    ∀ x', (R (h.sets ((vaddr v).add (i * sz + o)) N) c x f → R (h.sets ((vaddr v).add (i * sz + o)) N) (A ++ N ++ C) x' f) → SlF e sz R (h.sets ((vaddr v).add (i * sz + o)) N) v (l.set i x') fp := by
  subst hc
  have hrow : RowF h e sz v ((cellsE L1 ++ A) ++ B ++ (C ++ cellsE L2)) fr := by have := K.row; simpa [List.append_assoc] using this
  have hA : (cellsE L1 ++ A).length = i * sz + o := by rw [List.length_append, K.pre, ho]
  obtain ⟨s1, s2⟩ := set_rowF hrow hN hne
  rw [hA] at s1 s2
  have hnd0 := hnd
  rw [K.foot] at hnd
  obtain ⟨n1, n2, n3⟩ := List.nodup_append.1 hnd
  have ag : ∀ {g : List Nat}, (∀ b ∈ g, b ∈ fpE L1 ++ (f ++ fpE L2)) → Agree h (h.sets ((vaddr v).add (i * sz + o)) N) g := fun hg b hb => s2 b fun hr => n3 b hr b (hg b hb) rfl
  refine ⟨?_, s2, fun x' hx => ?_⟩
  · have h1 := hrow.row0.len
    have h2 := hrow.row0.fit
    refine K.row.row0.writable ?_
    obtain ⟨a, n, cc, rfl, _, h3⟩ := h2
    simp only [vlen_sl, vcap_sl, List.length_append] at h1 hA ⊢
    have : n * sz ≤ cc * sz := Nat.mul_le_mul_right _ h3
    omega
  · have hlist : l.set i x' = L1.map El.x ++ x' :: L2.map El.x := by
      rw [K.list, List.set_append_right _ _ (by rw [List.length_map, K.at_]; omega), List.length_map, K.at_, Nat.sub_self]; rfl
    have hrep := hx (hR.agree (ag fun b hb => by simp [hb]) K.rep)
    refine ⟨L1 ++ ⟨A ++ N ++ C, x', f⟩ :: L2, fr, by rw [hlist]; simp, by rw [fpE_append, fpE_cons]; exact K.foot, ?_, fun s hs => ?_⟩
    · rw [cellsE_append, cellsE_cons]; simpa [List.append_assoc] using s1
    · rcases List.mem_append.1 hs with q | q
      · exact (K.e1.agree hR (ag fun b hb => by simp [hb])) s q
      · rcases List.mem_cons.1 q with rfl | q
        · refine ⟨?_, hrep⟩
          have := K.len
          simp only [List.length_append] at this ⊢; omega
        · exact (K.e2.agree hR (ag fun b hb => by simp [hb])) s q
theorem Lens.nodup (hR : GoodF R) (K : Lens e sz R h v l fp i x c f L1 L2 fr) (hnd : fp.Nodup) {f' : List Nat} (hf : ∀ b ∈ f', b ∈ f ∨ h b = none) (hn : f'.Nodup) : (fr ++ (fpE L1 ++ (f' ++ fpE L2))).Nodup := by
  rw [K.foot] at hnd
  obtain ⟨n1, n2, n3⟩ := List.nodup_append.1 hnd
  obtain ⟨n4, n5, n6⟩ := List.nodup_append.1 n2
  obtain ⟨n7, n8, n9⟩ := List.nodup_append.1 n5
  have lr := K.row.live
  have ll1 := K.e1.live hR
  have ll2 := K.e2.live hR
  have dead : ∀ b, (h b).isSome = true → h b ≠ none := fun b hb e => by rw [e] at hb; cases hb
  refine List.nodup_append.2 ⟨n1, List.nodup_append.2 ⟨n4, List.nodup_append.2 ⟨hn, n8, fun a ha b hb e => ?_⟩, fun a ha b hb e => ?_⟩, fun a ha b hb e => ?_⟩
  · subst e
    rcases hf a ha with q | q
    · exact n9 a q a hb rfl
    · exact dead a (ll2 a hb) q
  · subst e
    rcases List.mem_append.1 hb with hb | hb
    · rcases hf a hb with q | q
      · exact n6 a ha a (by simp [q]) rfl
      · exact dead a (ll1 a ha) q
    · exact n6 a ha a (by simp [hb]) rfl
  · subst e
    rcases List.mem_append.1 hb with hb | hb
    · exact n3 a ha a (by simp [hb]) rfl
    · rcases List.mem_append.1 hb with hb | hb
      · rcases hf a hb with q | q
        · exact n3 a ha a (by simp [q]) rfl
        · exact dead a (lr a ha) q
      · exact n3 a ha a (by simp [hb]) rfl
/-- The part's own blocks have changed (into h1), then some cells of the part are set. -/
theorem Lens.upd (hR : GoodF R) (K : Lens e sz R h v l fp i x c f L1 L2 fr) (hnd : fp.Nodup) {h1 : H} (hk : KeptH h h1 f) {o : Nat} {N A B C : List Value} (hc : c = A ++ B ++ C) (ho : A.length = o) (hN : N.length = B.length) (hne : B ≠ []) :
    Writable h1 ((vaddr v).add (i * sz + o)) N.length ∧ (∀ b, b ∉ fr → (h1.sets ((vaddr v).add (i * sz + o)) N) b = h1 b) ∧
    ∀ x' f', R (h1.sets ((vaddr v).add (i * sz + o)) N) (A ++ N ++ C) x' f' → SlF e sz R (h1.sets ((vaddr v).add (i * sz + o)) N) v (l.set i x') (fr ++ (fpE L1 ++ (f' ++ fpE L2))) := by
  subst hc
  have hnd0 := hnd
  rw [K.foot] at hnd
  obtain ⟨n1, n2, n3⟩ := List.nodup_append.1 hnd
  obtain ⟨n4, n5, n6⟩ := List.nodup_append.1 n2
  obtain ⟨n7, n8, n9⟩ := List.nodup_append.1 n5
  have ar : Agree h h1 fr := hk.agree K.row.live fun b hb hf => n3 b hb b (by simp [hf]) rfl
  have a1 : Agree h h1 (fpE L1) := hk.agree (K.e1.live hR) fun b hb hf => n6 b hb b (by simp [hf]) rfl
  have a2 : Agree h h1 (fpE L2) := hk.agree (K.e2.live hR) fun b hb hf => n9 b hf b hb rfl
  have hrow : RowF h1 e sz v ((cellsE L1 ++ A) ++ B ++ (C ++ cellsE L2)) fr := by have := K.row.agree ar; simpa [List.append_assoc] using this
  have hA : (cellsE L1 ++ A).length = i * sz + o := by rw [List.length_append, K.pre, ho]
  obtain ⟨s1, s2⟩ := set_rowF hrow hN hne
  rw [hA] at s1 s2
  refine ⟨?_, s2, fun x' f' hx => ?_⟩
  · have h1 := hrow.row0.len
    have h2 := hrow.row0.fit
    refine hrow.row0.writable ?_
    obtain ⟨a, n, cc, rfl, _, h3⟩ := h2
    simp only [vlen_sl, vcap_sl, List.length_append] at h1 hA ⊢
    have : n * sz ≤ cc * sz := Nat.mul_le_mul_right _ h3
    omega
  · have hlist : l.set i x' = L1.map El.x ++ x' :: L2.map El.x := by
      rw [K.list, List.set_append_right _ _ (by rw [List.length_map, K.at_]; omega), List.length_map, K.at_, Nat.sub_self]; rfl
    have b1 : Agree h1 (h1.sets ((vaddr v).add (i * sz + o)) N) (fpE L1) := fun b hb => s2 b fun hr => n3 b hr b (by simp [hb]) rfl
    have b2 : Agree h1 (h1.sets ((vaddr v).add (i * sz + o)) N) (fpE L2) := fun b hb => s2 b fun hr => n3 b hr b (by simp [hb]) rfl
    refine ⟨L1 ++ ⟨A ++ N ++ C, x', f'⟩ :: L2, fr, by rw [hlist]; simp, by rw [fpE_append, fpE_cons], ?_, fun s hs => ?_⟩
    · rw [cellsE_append, cellsE_cons]; simpa [List.append_assoc] using s1
    · rcases List.mem_append.1 hs with q | q
      · exact ((K.e1.agree hR a1).agree hR b1) s q
      · rcases List.mem_cons.1 q with rfl | q
        · refine ⟨?_, hx⟩
          have := K.len
          simp only [List.length_append] at this ⊢; omega
        · exact ((K.e2.agree hR a2).agree hR b2) s q
end
theorem h_store {P : Program} {R : Value → List (List Value) → H → Prop} {G : List Value} {L : Lv} {h : H} {p : PE} {l : List SV} {k : Out} (ad : Addr) (N : List Value) (hp : p.den G = ad) (hN : SV.denL G dE l = N) (h1 : Writable h ad N.length)
    (h2 : holds P R k G L (h.sets ad N)) : holds P R (.store p l k) G L h := by
  subst hp; subst hN
  have : (SV.denL G dE l).length = l.length := by simp [SV.denL_eq]
  rw [this] at h1
  exact ⟨h1, h2⟩
end Go.Proofs.YtbgfabppmobpgaaDoor

/-
  From a law's contract to its row: what an argument's reading says of memory, and what the row asks behind the call. Conditions: as each lemma says.
-/
set_option linter.unusedVariables false
set_option linter.unusedSimpArgs false
namespace Go.Proofs.YtbgfabppmobpgaaDoor
open Go Go.ChangeShapes Go.WideShapes Go.ChangeAt Go.RowKit

/-! ### The whole memory, as what is at hand -/
def hOf (W : World) : H := fun b => W.heap[b]?
theorem hOf_cell {W : World} {a : Addr} : (hOf W).cell? a = W.cell? a := by
  unfold H.cell? World.cell? hOf; rfl
/-- What a law's call comes to: true, and all that was there is as it was. -/
def LawR (W : World) : Value → List (List Value) → H → Prop := Ret fun r h' => (hOf W).le h' ∧ r = .bool true
theorem law_calls {P : Program} {f : FuncId} {args : List Value} {W : World} (hc : CallsA P f (fun _ => args) [] (hOf W) (LawR W)) :
    Calls P f args.toArray W fun e W' => e = .returned (.bool true) ∧ Below W.heap.size W W' := by
  refine (hc W [] rfl (fun i c l h _ => by simp at h) (fun c h => by cases h) List.Pairwise.nil (fun b o h => h)).mono ?_
  rintro e w' ⟨v, cs', h', rfl, ⟨rfl, hle, rfl⟩, _, _, hF, hsub, _⟩
  refine ⟨rfl, ⟨hF.os, hF.tape, hF.out, hF.size, fun k hk => ?_⟩⟩
  have : W.heap[k]? = some W.heap[k] := Array.getElem?_eq_getElem hk
  rw [this]
  exact hsub _ _ (hle _ _ this)

/-! ### Readings -/
section
variable {Hh : Type} {enc : TypeId × Value → Hh} {P : Program} {W : World}
def Rd (enc : TypeId × Value → Hh) (P : Program) (W : World) (t : TypeId) (cs : List Value) : Prop := ∃ fuel x, DataW.trod enc P W 0 (fun _ => true) true fuel t cs = some x
theorem Rd.of {t : TypeId} {v : Value} {d : DataW Hh} {ps : List MemPlace} (h : DataW.Trod enc P W 0 (fun _ => true) true t v d ps) : Rd enc P W t v.cells.toList := by
  obtain ⟨f, h⟩ := h; exact ⟨f, _, h⟩
theorem Rd.int {t : TypeId} {k : IntKind} {cs : List Value} (ht : P.underlying t = some (.int k)) (h : Rd enc P W t cs) : ∃ n, cs = [.int k n] ∧ (Lit.int k n).wf = true := by
  obtain ⟨f, x, h⟩ := h
  obtain ⟨n, h1, _, h2⟩ := DataW.trod_int ht h
  exact ⟨n, h1, h2⟩
theorem Rd.bool {t : TypeId} {cs : List Value} (ht : P.underlying t = some .bool) (h : Rd enc P W t cs) : ∃ b, cs = [.bool b] := by
  obtain ⟨f, x, h⟩ := h
  obtain ⟨n, h1, _⟩ := DataW.trod_bool ht h
  exact ⟨n, h1⟩
theorem Rd.str {t : TypeId} {cs : List Value} (ht : P.underlying t = some .string) (h : Rd enc P W t cs) : ∃ s : ByteArray, cs = [.string s] ∧ s.size ≤ maxLen := by
  obtain ⟨f, x, h⟩ := h
  obtain ⟨n, h1, _, h2⟩ := DataW.trod_string ht h
  exact ⟨n, h1, h2⟩
theorem Rd.struct {t : TypeId} {fs : Array Field} {cs : List Value} (ht : P.underlying t = some (.struct fs)) (h : Rd enc P W t cs) :
    cs.length = P.cellsOf t ∧ ∀ (i : Nat) (f : Field), fs[i]? = some f → Rd enc P W f.type ((cs.drop f.offset).take (P.cellsOf f.type)) := by
  obtain ⟨n, x, h⟩ := h
  obtain ⟨xs, m, _, _, h1, h2, h3⟩ := DataW.trod_struct ht h
  refine ⟨h1, fun i f hf => ?_⟩
  have hlt : i < xs.length := by rw [h2]; exact (Array.getElem?_eq_some_iff.1 hf).1
  exact ⟨m, xs[i], by rw [h3 i f hf, List.getElem?_eq_getElem hlt]⟩
theorem Rd.array {t e : TypeId} {n : Nat} {cs : List Value} (ht : P.underlying t = some (.array n e)) (h : Rd enc P W t cs) :
    cs.length = P.cellsOf t ∧ ∀ i, i < n → Rd enc P W e ((cs.drop (i * P.cellsOf e)).take (P.cellsOf e)) := by
  obtain ⟨f, x, h⟩ := h
  obtain ⟨xs, m, _, _, h1, h2, h3⟩ := DataW.trod_array ht h
  refine ⟨h1, fun i hf => ?_⟩
  exact ⟨m, xs[i], by rw [h3 i hf, List.getElem?_eq_getElem (by omega)]⟩
/-- A struct's cells, field behind field. -/
def RdL (enc : TypeId × Value → Hh) (P : Program) (W : World) : List TypeId → List Value → Prop
  | [], cs => cs = []
  | t :: ts, cs => ∃ a b, cs = a ++ b ∧ Rd enc P W t a ∧ RdL enc P W ts b
def okOff (P : Program) (n : Nat) : Nat → List Field → Bool
  | o, [] => o.beq n
  | o, f :: fs => f.offset.beq o && okOff P n (o + P.cellsOf f.type) fs
theorem RdL.of {n : Nat} {cs : List Value} (hn : cs.length = n) : ∀ {fs : List Field} {o : Nat}, okOff P n o fs = true → (∀ f ∈ fs, Rd enc P W f.type ((cs.drop f.offset).take (P.cellsOf f.type))) → RdL enc P W (fs.map (·.type)) (cs.drop o)
  | [], o, h, _ => by
    simp only [okOff, Nat.beq_eq] at h
    exact List.drop_eq_nil_of_le (by omega)
  | f :: fs, o, h, hr => by
    simp only [okOff, Bool.and_eq_true, Nat.beq_eq] at h
    refine ⟨(cs.drop o).take (P.cellsOf f.type), cs.drop (o + P.cellsOf f.type), ?_, ?_, RdL.of hn h.2 fun g hg => hr g (List.mem_cons_of_mem _ hg)⟩
    · rw [← List.drop_drop, List.take_append_drop]
    · have := hr f (List.mem_cons_self ..); rw [h.1] at this; exact this
theorem Rd.parts {t : TypeId} {fs : Array Field} {cs : List Value} (ht : P.underlying t = some (.struct fs)) (ho : okOff P (P.cellsOf t) 0 fs.toList = true) (h : Rd enc P W t cs) : RdL enc P W (fs.toList.map (·.type)) cs := by
  obtain ⟨h1, h2⟩ := h.struct ht
  have := RdL.of (enc := enc) (W := W) h1 ho fun f hf => by
    obtain ⟨i, hi⟩ := List.getElem?_of_mem hf
    exact h2 i f (by rw [← Array.getElem?_toList]; exact hi)
  simpa using this
/-- A slice's parts, each by its own reading. -/
theorem Rd.slice {α : Type} {t e : TypeId} {sz : Nat} {cs : List Value} {Rep : H → List Value → α → Prop} (ht : P.underlying t = some (.slice e)) (hsz : P.cellsOf e = sz) (h : Rd enc P W t cs)
    (hR : ∀ cs', Rd enc P W e cs' → ∃ x, Rep (hOf W) cs' x) : ∃ v l, cs = [v] ∧ SlAt sz Rep (hOf W) v l ∧ vcap v ≤ maxLen := by
  obtain ⟨f, x, h⟩ := h
  rcases Go.Deep.open_slice ht h with ⟨rfl, _⟩ | ⟨a, len, cap, m, n, D, Pl, rfl, _, hl, hm, hmm, _, hx⟩
  · exact ⟨_, [], rfl, SlAt.nil, Nat.zero_le _⟩
  · have hp : ∀ i, i < len → ∃ y : α, ∃ cs', Rep (hOf W) cs' y ∧ Reads (hOf W) (a.add (i * sz)) cs' := by
      intro i hi
      obtain ⟨cs', h1, h2⟩ := hx i (by rw [hmm]; split <;> omega)
      obtain ⟨y, hy⟩ := hR cs' ⟨n, _, h2⟩
      refine ⟨y, cs', hy, fun j v hj => ?_⟩
      obtain ⟨_, c1, c2⟩ := World.cells?_some h1
      rw [hOf_cell, ← hsz, c2 j (by rw [← c1]; exact (List.getElem?_eq_some_iff.1 hj).1)]
      exact hj
    have key : ∀ k, k ≤ len → ∃ l : List α, l.length = k ∧ ∀ i y, l[i]? = some y → ∃ cs', Rep (hOf W) cs' y ∧ Reads (hOf W) (a.add (i * sz)) cs' := by
      intro k
      induction k with
      | zero => exact fun _ => ⟨[], rfl, fun i y hi => by simp at hi⟩
      | succ k ih =>
        intro hk
        obtain ⟨l, hl1, hl2⟩ := ih (by omega)
        obtain ⟨y, hy⟩ := hp k (by omega)
        refine ⟨l ++ [y], by simp [hl1], fun i z hi => ?_⟩
        by_cases h' : i < l.length
        · rw [List.getElem?_append_left h'] at hi; exact hl2 i z hi
        · rw [List.getElem?_append_right (by omega)] at hi
          obtain ⟨h0, rfl⟩ : i - l.length = 0 ∧ z = y := by
            cases e : i - l.length with
            | zero => rw [e] at hi; simp at hi; exact ⟨rfl, hi.symm⟩
            | succ q => rw [e] at hi; simp at hi
          have : i = k := by omega
          rw [this]; exact hy
    obtain ⟨l, hl1, hl2⟩ := key len (Nat.le_refl _)
    exact ⟨_, l, rfl, ⟨⟨_, _, _, rfl, (fun e => by cases e), hl⟩, hl1.symm, hl2⟩, hm⟩
theorem Rd.ints {t e : TypeId} {cs : List Value} (ht : P.underlying t = some (.slice e)) (he : P.underlying e = some (.int .i64)) (hsz : P.cellsOf e = 1) (h : Rd enc P W t cs) : ∃ v l, cs = [v] ∧ IntsAt (hOf W) v l ∧ vcap v ≤ maxLen :=
  Rd.slice ht hsz h fun cs' hr => by obtain ⟨n, h1, _⟩ := hr.int he; exact ⟨n, h1⟩

/-! ### Behind the call -/
theorem trodAll_below (hl : laidOutB P = true) {W' : World} (bel : Below W.heap.size W W') : ∀ {ts : List TypeId} {vs : List Value} {ds : List (DataW Hh)} {ps : List MemPlace},
    (∀ t ∈ ts, P.readableRec t = true ∧ t < P.types.size) → DataW.TrodAll enc P W 0 (fun _ => true) true ts vs ds ps → DataW.TrodAll enc P W' 0 (fun b => decide (b < W.heap.size)) true ts vs ds ps
  | [], vs, ds, ps, _, h => by
    cases vs <;> cases ds <;> simp [DataW.TrodAll] at h ⊢
    exact h
  | t :: ts, vs, ds, ps, ht, h => by
    obtain ⟨v, vs', d, ds', p, q, rfl, rfl, rfl, h1, h2⟩ := trodAll_cons h
    obtain ⟨r1, r2⟩ := ht t (List.mem_cons_self ..)
    refine trodAll_cons_mk (Below.trod hl r1 r2 h1 bel ?_) (trodAll_below hl bel (fun t h => ht t (List.mem_cons_of_mem _ h)) h2)
    obtain ⟨f, h1⟩ := h1
    exact DataW.trod_lt f _ _ _ h1
/-- What the row asks, where the law answers true and the arguments read as they did. -/
theorem law_post {f : Func} {s : ChangeSpec} {apart : Bool} {W' : World} {args : Array Value} {ds gs : List (DataW Hh)} {before : List MemPlace} {rt : TypeId} (hl : laidOutB P = true)
    (hW : DataW.Whole enc P f.params.toList s.vars apart W args.toList ds gs before) (hvars : s.vars = []) (hts : ∀ t ∈ f.params.toList, P.readableRec t = true ∧ t < P.types.size)
    (hrt : f.resultTypes = #[rt]) (hb : P.underlying rt = some .bool) (hs : s.fn Hh ds = { results := [.lit (.bool true)], args := ds }) (bel : Below W.heap.size W W') :
    s.post enc P f apart true false false W args (.bool true) W' := by
  have hW' := hW
  obtain ⟨p, q, hA, hV, hpq, hfz, hnd⟩ := hW
  rw [hvars] at hV
  obtain ⟨hgs, hq⟩ : gs = [] ∧ q = [] := by
    cases gs with
    | nil => exact ⟨rfl, hV⟩
    | cons _ _ => exact hV.elim
  subst hgs
  have he : s.fn Hh (ds ++ []) = { results := [.lit (.bool true)], args := ds } := by rw [List.append_nil]; exact hs
  refine ⟨ds, [], before, [], p, [], hW', ?_, ?_, ?_, bel.frame _, fun h => by cases h⟩
  · rw [he, hrt]; exact trodAll_mk1 (shut_bool hb _)
  · rw [he]; exact trodAll_below hl bel hts hA
  · rw [he, hvars]; rfl
end
end Go.Proofs.YtbgfabppmobpgaaDoor
